/- Texts of the proof, in their order: Ckg, Ckh, Cki, Ckj, Ckk, Ckl, Ckm, Ckn, Cko, Cb1, Cm7. -/
import Derived.Test.YtkolmklfgbimoaaGreatDoorM4
import Derived.Test.YtkolmklfgbimoaaGreatDoorM2
set_option linter.unusedVariables false
set_option linter.unusedSimpArgs false
set_option maxHeartbeats 16000000
set_option maxRecDepth 100000
namespace Go.Proofs.YtkolmklfgbimoaaGreatDoor.Cm
open Go Go.Sx Go.Sx.Chunk
section
variable {TA:Addr} {L:List (Sc.Tk×Nat)}
def DoesS (TA:Addr) (L:List (Sc.Tk×Nat)) (c F:Nat) (f:CS→CS) (n:Nat):Prop:=∀ s,s.toks.length<n→Gd s→wt s≤1000000000000→∀ x,OkX TA L s x→FnC Tryz.prog F [cP c] (cmH c s x) [tkB TA L,spaceV] (fun _=>.tuple #[]) (fun y:Ad=>cmH c (f s) y) (fun y=>OkX TA L (f s) y)
theorem begunC (c N:Nat) (s:CS) (x:Ad) (hm:mNamed s=true) (hn:s.toks.length<N) (hg:Gd s) (hw:wt s≤1000000000000) (hx:OkX TA L s x):FnC Tryz.prog 182 [cP c] (cmH c s x) [tkB TA L,spaceV] (fun _=>.tuple #[]) (fun y:Ad=>cmH c (mBegun N s) y) (fun y=>OkX TA L (mBegun N s) y):=by
 have h1:=nameC c s x hx;have e1:=ex_named hm;unfold mBegun;dsimp only;generalize mHere s=pl at *;generalize mName s=a at *;obtain ⟨an,s1⟩:=a;dsimp only at *;have g1:=hg.ex e1;have w1:=e1.w;have l1:=e1.ln;have wb:=wt_begs (Int.le_refl (wt s1));have wn:=wt_ents (Int.le_refl (wt s1));have h2:=fun y hy=>errFindC (TA:=TA) (L:=L) c s1 y an pl (by omega) (by omega) (fun b hb=>by have:=g1.bg b hb;omega) hy
 have e2:=e1.tr (k := -100) (ex_look an pl s1);have l2:=(ex_look an pl s1).ln;generalize mLook an pl s1=b at *;obtain ⟨t,s2⟩:=b;dsimp only at *;have g2:=hg.ex e2;have w2:=e2.w;by_cases h':s2.e=0
 ·simp only [if_neg (show ¬ (s2.e≠0) by simpa using h')];by_cases hk:t.kind=3∨t.kind=4
  ·simp only [if_pos hk];have h3:=fun y hy=>callC (TA:=TA) (L:=L) c N t s2 y (by omega) g2 (by omega) hy
   generalize mCall N t s2=s3 at *;replace h1:=uh h1;replace h2:=uh h2;replace h3:=uh h3;refine ug ?_;by_cases hk3:t.kind=3
   ·skip
    refine fn_intro Tryz.func182 Tryz.ntmps182 rfl rfl rfl (fun w0=>?_);refine rrs ?_;refine cl (h1) ?_;intro y hy;refine rrs ?_;refine cl (h2 y hy) ?_;intro z hz;refine rrs ?_;intro b1 _;refine rr ?_;refine cl (h3 z hz) ?_;intro u hu;refine rrs ?_;exact en u hu
   ·have hk4:t.kind=4:=hk.resolve_left hk3;refine fn_intro Tryz.func182 Tryz.ntmps182 rfl rfl rfl (fun w0=>?_);refine rrs ?_;refine cl (h1) ?_;intro y hy;refine rrs ?_;refine cl (h2 y hy) ?_;intro z hz;refine rrs ?_;intro b1 _;refine rr ?_;refine cl (h3 z hz) ?_;intro u hu;refine rrs ?_;exact en u hu
  ·simp only [if_neg hk];have hk3:¬ t.kind=3:=fun h=>hk (.inl h)
   have hk4:¬ t.kind=4:=fun h=>hk (.inr h)
   have h3:=fun y hy=>assignC (TA:=TA) (L:=L) c N t s2 y (by omega) g2 (by omega) hy
   generalize mAssign N t s2=s3 at *;replace h1:=uh h1;replace h2:=uh h2;replace h3:=uh h3;refine ug ?_;refine fn_intro Tryz.func182 Tryz.ntmps182 rfl rfl rfl (fun w0=>?_);refine rrs ?_;refine cl (h1) ?_;intro y hy;refine rrs ?_;refine cl (h2 y hy) ?_;intro z hz;refine rrs ?_;intro b1 _;refine rr ?_;refine cl (h3 z hz) ?_;intro u hu;refine rrs ?_;exact en u hu
 ·simp only [if_pos (show s2.e≠0 by simpa using h')];replace h1:=uh h1;replace h2:=uh h2;refine ug ?_;refine fn_intro Tryz.func182 Tryz.ntmps182 rfl rfl rfl (fun w0=>?_);refine rrs ?_;refine cl (h1) ?_;intro y hy;refine rrs ?_;refine cl (h2 y hy) ?_;intro z hz;refine rrs ?_;intro b1 _;refine rr ?_;exact en z hz
theorem withinC (c n:Nat) (f:CS→CS) (hf:DoesS TA L c 68 f n) (he:∀ s,Ex 0 s (f s)) (pl:Int) (s:CS) (x:Ad) (hn:s.toks.length<n) (hg:Gd s) (hw:wt s+1≤1000000000000) (hx:OkX TA L s x):FnC Tryz.prog 216 [cP c,.int .i64 pl] (cmH c s x) [tkB TA L,spaceV] (fun _=>.tuple #[]) (fun y:Ad=>cmH c (mWithin pl f s) y) (fun y=>OkX TA L (mWithin pl f s) y):=by
 unfold mWithin;have hc:((s.nest+1:Nat):Int)=(s.nest:Int)+1:=by omega
 have hwn:(s.nest:Int)≤1000000000000:=by unfold wt at hw;omega
 by_cases h:s.nest+1>16
 ·simp only [if_pos h];have h3:=fun y=>stopC (TA:=TA) (L:=L) c { s with nest:=s.nest+1 } y 8 pl
  generalize mStop 8 pl { s with nest:=s.nest+1 }=s1 at *;replace h3:=uh h3;refine ug ?_;dsimp only at *;rw [hc] at h3;refine fn_intro Tryz.func216 Tryz.ntmps216 rfl rfl rfl (fun w0=>?_);refine rrs ?_;refine cl (h3 x) ?_;intro y hy;refine rrs ?_;exact en y hy
 ·simp only [if_neg h];have e0:=ex_nest s;have w0':=e0.w;have h3:=hf { s with nest:=s.nest+1 } hn (hg.ex e0) (by omega) x (hx.same rfl rfl rfl);have e3:=he { s with nest:=s.nest+1 };have n3:=e3.ns;have w3:=e3.w;generalize f { s with nest:=s.nest+1 }=r at *;dsimp only at n3;have hrw:wt r≤1000000000000:=by omega
  have hrn:(r.nest:Int)≤1000000000000:=by unfold wt at hrw;omega
  have hc2:((r.nest-1:Nat):Int)=(r.nest:Int)-1:=by omega
  replace h3:=uh h3;refine ug ?_;dsimp only at *;rw [hc] at h3;rw [hc2];refine fn_intro Tryz.func216 Tryz.ntmps216 rfl rfl rfl (fun w0=>?_);refine rrs ?_;refine cl (h3) ?_;intro y hy;refine rrs ?_;exact en y (hy.same rfl rfl rfl)
theorem readsC (c:Nat) (s:CS) (x:Ad) (hg:Gd s) (hw:wt s+3≤1000000000000) (hx:OkX TA L s x):FnC Tryz.prog 181 [cP c] (cmH c s x) [tkB TA L,spaceV] (fun _=>.tuple #[]) (fun y:Ad=>cmH c (mReads s) y) (fun y=>OkX TA L (mReads s) y):=by
 have h1:=nameC c s x hx;have e1:=ex_name s;unfold mReads;dsimp only;generalize mHere s=pl at *;generalize mName s=a at *;obtain ⟨an,s1⟩:=a;dsimp only at *;have g1:=hg.ex e1;have w1:=e1.w;have wb:=wt_begs (Int.le_refl (wt s1));have wn:=wt_ents (Int.le_refl (wt s1));have h2:=fun y hy=>errFindC (TA:=TA) (L:=L) c s1 y an pl (by omega) (by omega) (fun b hb=>by have:=g1.bg b hb;omega) hy
 have e2:=e1.tr (k:=0) (ex_look an pl s1);generalize mLook an pl s1=b at *;obtain ⟨t,s2⟩:=b;dsimp only at *;have g2:=hg.ex e2;have w2:=e2.w;by_cases hc:s2.e=0∧t.kind≠0∧t.kind≠2
 ·simp only [if_pos hc];obtain ⟨he2,hk0,hk2⟩:=hc;have h3:=fun y=>stopC (TA:=TA) (L:=L) c s2 y 7 pl
  have e3:=e2.tr (k:=0) (ex_stop 7 pl s2);generalize mStop 7 pl s2=s3 at *;have w3:=e3.w;have h4:=fun y hy=>putC (TA:=TA) (L:=L) c s3 y ⟨20,0,0,0,1⟩ (by have:=wt_code (Int.le_refl (wt s3));omega) hy
  have e4:=e3.tr (k:=1) (ex_put ⟨20,0,0,0,1⟩ s3);generalize mPut ⟨20,0,0,0,1⟩ s3=s4 at *;have w4:=e4.w;have h5:=fun y hy=>storeC (TA:=TA) (L:=L) c s4 y t 4 (by have:=wt_code (Int.le_refl (wt s4));omega) (by have:=wt_pats (Int.le_refl (wt s4));omega) hy
  generalize mStore t 4 s4=s5 at *;replace h1:=uh h1;replace h2:=uh h2;replace h3:=uh h3;replace h4:=uh h4;replace h5:=uh h5;refine ug ?_;refine fn_intro Tryz.func181 Tryz.ntmps181 rfl rfl rfl (fun w0=>?_);refine rrs ?_;refine cl (h1) ?_;intro y hy;refine rrs ?_;refine cl (h2 y hy) ?_;intro z hz;refine rrs ?_;intro b1 _;refine rr ?_;refine cl (h3 z) ?_;intro y hy;refine rrs ?_;refine cl (h4 y hy) ?_;intro z hz;refine rrs ?_;refine cl (h5 z hz) ?_;intro y hy;refine rrs ?_;exact en y hy
 ·simp only [if_neg hc];have h4:=fun y hy=>putC (TA:=TA) (L:=L) c s2 y ⟨20,0,0,0,1⟩ (by have:=wt_code (Int.le_refl (wt s2));omega) hy
  have e4:=e2.tr (k:=1) (ex_put ⟨20,0,0,0,1⟩ s2);generalize mPut ⟨20,0,0,0,1⟩ s2=s4 at *;have w4:=e4.w;have h5:=fun y hy=>storeC (TA:=TA) (L:=L) c s4 y t 4 (by have:=wt_code (Int.le_refl (wt s4));omega) (by have:=wt_pats (Int.le_refl (wt s4));omega) hy
  generalize mStore t 4 s4=s5 at *;replace h1:=uh h1;replace h2:=uh h2;replace h4:=uh h4;replace h5:=uh h5;refine ug ?_;by_cases he2:s2.e=0
  ·by_cases hk0:t.kind=0
   ·skip
    refine fn_intro Tryz.func181 Tryz.ntmps181 rfl rfl rfl (fun w0=>?_);refine rrs ?_;refine cl (h1) ?_;intro y hy;refine rrs ?_;refine cl (h2 y hy) ?_;intro z hz;refine rrs ?_;intro b1 _;refine rr ?_;refine cl (h4 z hz) ?_;intro y hy;refine rrs ?_;refine cl (h5 y hy) ?_;intro z hz;refine rrs ?_;exact en z hz
   ·have hk2:t.kind=2:=by
     by_cases h:t.kind=2
     ·exact h
     ·exact absurd ⟨he2,hk0,h⟩ hc
    refine fn_intro Tryz.func181 Tryz.ntmps181 rfl rfl rfl (fun w0=>?_);refine rrs ?_;refine cl (h1) ?_;intro y hy;refine rrs ?_;refine cl (h2 y hy) ?_;intro z hz;refine rrs ?_;intro b1 _;refine rr ?_;refine cl (h4 z hz) ?_;intro y hy;refine rrs ?_;refine cl (h5 y hy) ?_;intro z hz;refine rrs ?_;exact en z hz
  ·skip
   refine fn_intro Tryz.func181 Tryz.ntmps181 rfl rfl rfl (fun w0=>?_);refine rrs ?_;refine cl (h1) ?_;intro y hy;refine rrs ?_;refine cl (h2 y hy) ?_;intro z hz;refine rrs ?_;intro b1 _;refine rr ?_;refine cl (h4 z hz) ?_;intro y hy;refine rrs ?_;refine cl (h5 y hy) ?_;intro z hz;refine rrs ?_;exact en z hz
end
section
variable {TA:Addr} {L:List (Sc.Tk×Nat)}
theorem choiceC (c N n:Nat) (f:CS→CS) (hf:DoesS TA L c 68 f n) (he:∀ s,Ex 0 s (f s)) (pl:Int) (s:CS) (x:Ad) (hn:s.toks.length<n) (hN:s.toks.length<N) (hg:Gd s) (hw:wt s+10≤1000000000000) (hx:OkX TA L s x):FnC Tryz.prog 177 [cP c,.int .i64 pl] (cmH c s x) [tkB TA L,spaceV] (fun _=>.tuple #[]) (fun y:Ad=>cmH c (mChoice N f pl s) y) (fun y=>OkX TA L (mChoice N f pl s) y):=by
 have h1:=exprS (TA:=TA) (L:=L) c N s x hN hg (by omega) hx;have e1:=ex_expr N s;unfold mChoice;dsimp only;generalize mExpr N s=r at *;obtain ⟨rn,s0⟩:=r;dsimp only at *;have h2:=fun y hy=>mustC (TA:=TA) (L:=L) c s0 y [116,104,101,110] hy
 have e2:=e1.tr (k:=0) (ex_must [116,104,101,110] s0);generalize mMust [116,104,101,110] s0=s1 at *;have w2:=e2.w;have q1:=wt_code (Int.le_refl (wt s1));have h3:=fun y hy=>jumpC (TA:=TA) (L:=L) c s1 y ⟨15,rn,0,0,0⟩ (by omega) (by have:=wt_pats (Int.le_refl (wt s1));omega) hy
 have e3:=e2.tr (k:=2) (ex_jump ⟨15,rn,0,0,0⟩ s1);generalize mJump ⟨15,rn,0,0,0⟩ s1=s2 at *;have h4:=fun y hy=>giveC (TA:=TA) (L:=L) c s2 y (hg.ex e3).tk hy
 have e4:=e3.tr (k:=2) (ex_give s2);generalize mGive s2=s3 at *;have w4:=e4.w;have h5:=fun y hy=>withinC (TA:=TA) (L:=L) c n f hf he pl s3 y (by have:=e4.ln;omega) (hg.ex e4) (by omega) hy
 have e5:=e4.tr (k:=3) (ex_within pl s3 (he _));generalize mWithin pl f s3=s4 at *;have w5:=e5.w;by_cases hs:mSees [101,108,115,101] s4=true
 ·simp only [if_pos hs];have h6:=fun y hy=>yesC (TA:=TA) (L:=L) c s4 y [101,108,115,101] hy hs
  have e6:=e5.tr (k:=3) ((ex_sees hs).up (k:=0));generalize mTail s4=s5 at *;have w6:=e6.w;have q5:=wt_code (Int.le_refl (wt s5));have h7:=fun y hy=>jumpC (TA:=TA) (L:=L) c s5 y ⟨17,0,0,0,0⟩ (by omega) (by have:=wt_pats (Int.le_refl (wt s5));omega) hy
  have e7:=e6.tr (k:=5) (ex_jump ⟨17,0,0,0,0⟩ s5);generalize mJump ⟨17,0,0,0,0⟩ s5=s6 at *;have w7:=e7.w;have h8:=fun y hy=>landC (TA:=TA) (L:=L) c s6 y (s1.code.length:Int) (by omega) (by have:=wt_code (Int.le_refl (wt s6));omega) hy
  have e8:=e7.tr (k:=5) (ex_land (s1.code.length:Int) s6);generalize mLand (s1.code.length:Int) s6=s7 at *;have w8:=e8.w;have h9:=fun y hy=>withinC (TA:=TA) (L:=L) c n f hf he pl s7 y (by have:=e8.ln;omega) (hg.ex e8) (by omega) hy
  have e9:=e8.tr (k:=6) (ex_within pl s7 (he _));generalize mWithin pl f s7=s8 at *;have hA:=fun y hy=>mustC (TA:=TA) (L:=L) c s8 y [101,110,100] hy
  have eA:=e9.tr (k:=6) (ex_must [101,110,100] s8);generalize mMust [101,110,100] s8=s9 at *;have wA:=eA.w;have hB:=fun y hy=>landC (TA:=TA) (L:=L) c s9 y (s5.code.length:Int) (by omega) (by have:=wt_code (Int.le_refl (wt s9));omega) hy
  generalize mLand (s5.code.length:Int) s9=sA at *;replace h1:=uh h1;replace h2:=uh h2;replace h3:=uh h3;replace h4:=uh h4;replace h5:=uh h5;replace h6:=uh h6;replace h7:=uh h7;replace h8:=uh h8;replace h9:=uh h9;replace hA:=uh hA;replace hB:=uh hB;refine ug ?_;refine fn_intro Tryz.func177 Tryz.ntmps177 rfl rfl rfl (fun w0=>?_);refine rrs ?_;refine cl (h1) ?_;intro y hy;refine rrs ?_;refine cl (h2 y hy) ?_;intro z hz;refine rrs ?_;refine cl (h3 z hz) ?_;intro y hy;refine rrs ?_;refine cl (h4 y hy) ?_;intro z hz;refine rrs ?_;refine cl (h5 z hz) ?_;intro y hy;refine rrs ?_;refine cl (h6 y hy) ?_;intro z hz;refine rrs ?_;refine cl (h7 z hz) ?_;intro y hy;refine rrs ?_;refine cl (h8 y hy) ?_;intro z hz;refine rrs ?_;refine cl (h9 z hz) ?_;intro y hy;refine rrs ?_;refine cl (hA y hy) ?_;intro z hz;refine rrs ?_;refine cl (hB z hz) ?_;intro y hy;refine rrs ?_;exact en y hy
 ·simp only [if_neg hs];have h6:=fun y hy=>noC (TA:=TA) (L:=L) c s4 y [101,108,115,101] hy hs
  have hA:=fun y hy=>mustC (TA:=TA) (L:=L) c s4 y [101,110,100] hy
  have eA:=e5.tr (k:=3) (ex_must [101,110,100] s4);generalize mMust [101,110,100] s4=s9 at *;have wA:=eA.w;have hB:=fun y hy=>landC (TA:=TA) (L:=L) c s9 y (s1.code.length:Int) (by omega) (by have:=wt_code (Int.le_refl (wt s9));omega) hy
  generalize mLand (s1.code.length:Int) s9=sA at *;replace h1:=uh h1;replace h2:=uh h2;replace h3:=uh h3;replace h4:=uh h4;replace h5:=uh h5;replace h6:=uh h6;replace hA:=uh hA;replace hB:=uh hB;refine ug ?_;refine fn_intro Tryz.func177 Tryz.ntmps177 rfl rfl rfl (fun w0=>?_);refine rrs ?_;refine cl (h1) ?_;intro y hy;refine rrs ?_;refine cl (h2 y hy) ?_;intro z hz;refine rrs ?_;refine cl (h3 z hz) ?_;intro y hy;refine rrs ?_;refine cl (h4 y hy) ?_;intro z hz;refine rrs ?_;refine cl (h5 z hz) ?_;intro y hy;refine rrs ?_;refine cl (h6 y hy) ?_;intro z hz;refine rrs ?_;refine cl (hA z hz) ?_;intro y hy;refine rrs ?_;refine cl (hB y hy) ?_;intro z hz;refine rrs ?_;exact en z hz
theorem loopC (c N n:Nat) (f:CS→CS) (hf:DoesS TA L c 68 f n) (he:∀ s,Ex 0 s (f s)) (pl:Int) (s:CS) (x:Ad) (hn:s.toks.length<n) (hN:s.toks.length<N) (hg:Gd s) (hw:wt s+10≤1000000000000) (hx:OkX TA L s x):FnC Tryz.prog 178 [cP c,.int .i64 pl] (cmH c s x) [tkB TA L,spaceV] (fun _=>.tuple #[]) (fun y:Ad=>cmH c (mLoop N f pl s) y) (fun y=>OkX TA L (mLoop N f pl s) y):=by
 have h0:=hereC2 c s x;have h1:=exprS (TA:=TA) (L:=L) c N s x hN hg (by omega) hx;have e1:=ex_expr N s;have q0:=wt_code (Int.le_refl (wt s));unfold mLoop;dsimp only;generalize mExpr N s=r at *;obtain ⟨rn,s0⟩:=r;dsimp only at *;have h2:=fun y hy=>mustC (TA:=TA) (L:=L) c s0 y [100,111] hy
 have e2:=e1.tr (k:=0) (ex_must [100,111] s0);generalize mMust [100,111] s0=s1 at *;have w2:=e2.w;have q1:=wt_code (Int.le_refl (wt s1));have h3:=fun y hy=>jumpC (TA:=TA) (L:=L) c s1 y ⟨15,rn,0,0,0⟩ (by omega) (by have:=wt_pats (Int.le_refl (wt s1));omega) hy
 have e3:=e2.tr (k:=2) (ex_jump ⟨15,rn,0,0,0⟩ s1);generalize mJump ⟨15,rn,0,0,0⟩ s1=s2 at *;have h4:=fun y hy=>giveC (TA:=TA) (L:=L) c s2 y (hg.ex e3).tk hy
 have e4:=e3.tr (k:=2) (ex_give s2);generalize mGive s2=s3 at *;have w4:=e4.w;have h5:=fun y hy=>withinC (TA:=TA) (L:=L) c n f hf he pl s3 y (by have:=e4.ln;omega) (hg.ex e4) (by omega) hy
 have e5:=e4.tr (k:=3) (ex_within pl s3 (he _));generalize mWithin pl f s3=s4 at *;have hA:=fun y hy=>mustC (TA:=TA) (L:=L) c s4 y [101,110,100] hy
 have eA:=e5.tr (k:=3) (ex_must [101,110,100] s4);generalize mMust [101,110,100] s4=s9 at *;have wA:=eA.w;have q9:=wt_code (Int.le_refl (wt s9));have hB:=fun y hy=>backC (TA:=TA) (L:=L) c s9 y ⟨17,0,0,0,0⟩ (s.code.length:Int) (by decide) (by omega) (by have:=wt_pats (Int.le_refl (wt s9));omega) hy
 have eB:=eA.tr (k:=5) (ex_back ⟨17,0,0,0,0⟩ (s.code.length:Int) s9);generalize mBack ⟨17,0,0,0,0⟩ (s.code.length:Int) s9=sA at *;have wB:=eB.w;have hC:=fun y hy=>landC (TA:=TA) (L:=L) c sA y (s1.code.length:Int) (by omega) (by have:=wt_code (Int.le_refl (wt sA));omega) hy
 generalize mLand (s1.code.length:Int) sA=sB at *;replace h0:=uh h0;replace h1:=uh h1;replace h2:=uh h2;replace h3:=uh h3;replace h4:=uh h4;replace h5:=uh h5;replace hA:=uh hA;replace hB:=uh hB;replace hC:=uh hC;refine ug ?_;refine fn_intro Tryz.func178 Tryz.ntmps178 rfl rfl rfl (fun w0=>?_);refine rrs ?_;refine cl (h0) ?_;intro y hy;try simp only [Sx.ap1,Sx.ap2,Sx.ap3]
 cases hy;refine rr ?_;refine cl (h1) ?_;intro y hy;refine rrs ?_;refine cl (h2 y hy) ?_;intro z hz;refine rrs ?_;refine cl (h3 z hz) ?_;intro y hy;refine rrs ?_;refine cl (h4 y hy) ?_;intro z hz;refine rrs ?_;refine cl (h5 z hz) ?_;intro y hy;refine rrs ?_;refine cl (hA y hy) ?_;intro z hz;refine rrs ?_;refine cl (hB z hz) ?_;intro y hy;refine rrs ?_;refine cl (hC y hy) ?_;intro z hz;refine rrs ?_;exact en z hz
end
section
variable {TA:Addr} {L:List (Sc.Tk×Nat)}
theorem stmtC (c N n:Nat) (f:CS→CS) (hf:DoesS TA L c 68 f n) (he:∀ s,Ex 0 s (f s)) (hnN:n+1≤N):DoesS TA L c 129 (mStmtB N f) (n+1):=by
 intro s hn hg hw x hx;have h0:=hereC c s x hx;unfold mStmtB;dsimp only;by_cases c0:mSees [105,102] s=true
 ·simp only [if_pos c0];have hy_:=fun y hy=>yesC (TA:=TA) (L:=L) c s y [105,102] hy c0
  have e1:=ex_sees c0;have l1:=tail_lt (sees_ne c0);have w1:=e1.w;generalize mHere s=pl at *;generalize mTail s=s1 at *;have h2:=fun y hy=>choiceC (TA:=TA) (L:=L) c N n f hf he pl s1 y (by omega) (by omega) (hg.ex e1) (by omega) hy
  generalize mChoice N f pl s1=s2 at *;replace h0:=uh h0;replace hy_:=uh hy_;replace h2:=uh h2;refine ug ?_;refine fn_intro Tryz.func129 Tryz.ntmps129 rfl rfl rfl (fun w0=>?_);refine rrs ?_;refine cl (h0) ?_;intro z hz;try simp only [Sx.ap1,Sx.ap2,Sx.ap3]
  cases hz;refine rr ?_;refine cl (hy_ x hx) ?_;intro y hy;refine rrs ?_;refine cl (h2 y hy) ?_;intro z hz;refine rrs ?_;exact en z hz
 ·simp only [if_neg c0];have n0:=fun y hy=>noC (TA:=TA) (L:=L) c s y [105,102] hy c0
  by_cases c1:mSees [119,104,105,108,101] s=true
  ·simp only [if_pos c1];have hy_:=fun y hy=>yesC (TA:=TA) (L:=L) c s y [119,104,105,108,101] hy c1
   have e1:=ex_sees c1;have l1:=tail_lt (sees_ne c1);have w1:=e1.w;generalize mHere s=pl at *;generalize mTail s=s1 at *;have h2:=fun y hy=>loopC (TA:=TA) (L:=L) c N n f hf he pl s1 y (by omega) (by omega) (hg.ex e1) (by omega) hy
   generalize mLoop N f pl s1=s2 at *;replace h0:=uh h0;replace n0:=uh n0;replace hy_:=uh hy_;replace h2:=uh h2;refine ug ?_;refine fn_intro Tryz.func129 Tryz.ntmps129 rfl rfl rfl (fun w0=>?_);refine rrs ?_;refine cl (h0) ?_;intro z hz;try simp only [Sx.ap1,Sx.ap2,Sx.ap3]
   cases hz;refine rr ?_;refine cl (n0 x hx) ?_;intro y hy;refine rrs ?_;refine cl (hy_ y hy) ?_;intro z hz;refine rrs ?_;refine cl (h2 z hz) ?_;intro y hy;refine rrs ?_;exact en y hy
  ·simp only [if_neg c1];have n1:=fun y hy=>noC (TA:=TA) (L:=L) c s y [119,104,105,108,101] hy c1
   by_cases c2:mSees [119,114,105,116,101] s=true
   ·simp only [if_pos c2];have hy_:=fun y hy=>yesC (TA:=TA) (L:=L) c s y [119,114,105,116,101] hy c2
    have e1:=ex_sees c2;have l1:=tail_lt (sees_ne c2);have w1:=e1.w;generalize mHere s=pl at *;generalize mTail s=s1 at *;have h2:=fun y hy=>exprS (TA:=TA) (L:=L) c N s1 y (by omega) (hg.ex e1) (by omega) hy
    have e2:=e1.tr (k := -100) (ex_expr N s1);generalize mExpr N s1=r at *;obtain ⟨rn,s2⟩:=r;dsimp only at h2 e2 ⊢;have w2:=e2.w;have h3:=fun y hy=>putC (TA:=TA) (L:=L) c s2 y ⟨1,4,rn,0,0⟩ (by have:=wt_code (Int.le_refl (wt s2));omega) hy
    have e3:=e2.tr (k := -99) (ex_put ⟨1,4,rn,0,0⟩ s2);generalize mPut ⟨1,4,rn,0,0⟩ s2=s3 at *;have w3:=e3.w;have h4:=fun y hy=>putC (TA:=TA) (L:=L) c s3 y ⟨20,0,0,0,2⟩ (by have:=wt_code (Int.le_refl (wt s3));omega) hy
    have e4:=e3.tr (k := -98) (ex_put ⟨20,0,0,0,2⟩ s3);generalize mPut ⟨20,0,0,0,2⟩ s3=s4 at *;have h5:=fun y hy=>giveC (TA:=TA) (L:=L) c s4 y (hg.ex e4).tk hy
    generalize mGive s4=s5 at *;replace h0:=uh h0;replace n0:=uh n0;replace n1:=uh n1;replace hy_:=uh hy_;replace h2:=uh h2;replace h3:=uh h3;replace h4:=uh h4;replace h5:=uh h5;refine ug ?_;refine fn_intro Tryz.func129 Tryz.ntmps129 rfl rfl rfl (fun w0=>?_);refine rrs ?_;refine cl (h0) ?_;intro z hz;try simp only [Sx.ap1,Sx.ap2,Sx.ap3]
    cases hz;refine rr ?_;refine cl (n0 x hx) ?_;intro y hy;refine rrs ?_;refine cl (n1 y hy) ?_;intro z hz;refine rrs ?_;refine cl (hy_ z hz) ?_;intro y hy;refine rrs ?_;refine cl (h2 y hy) ?_;intro z hz;refine rrs ?_;refine cl (h3 z hz) ?_;intro y hy;refine rrs ?_;refine cl (h4 y hy) ?_;intro z hz;refine rrs ?_;refine cl (h5 z hz) ?_;intro y hy;refine rrs ?_;exact en y hy
   ·simp only [if_neg c2];have n2:=fun y hy=>noC (TA:=TA) (L:=L) c s y [119,114,105,116,101] hy c2
    by_cases c3:mSees [114,101,97,100] s=true
    ·simp only [if_pos c3];have hy_:=fun y hy=>yesC (TA:=TA) (L:=L) c s y [114,101,97,100] hy c3
     have e1:=ex_sees c3;have l1:=tail_lt (sees_ne c3);have w1:=e1.w;generalize mHere s=pl at *;generalize mTail s=s1 at *;have h2:=fun y hy=>readsC (TA:=TA) (L:=L) c s1 y (hg.ex e1) (by omega) hy
     generalize mReads s1=s2 at *;replace h0:=uh h0;replace n0:=uh n0;replace n1:=uh n1;replace n2:=uh n2;replace hy_:=uh hy_;replace h2:=uh h2;refine ug ?_;refine fn_intro Tryz.func129 Tryz.ntmps129 rfl rfl rfl (fun w0=>?_);refine rrs ?_;refine cl (h0) ?_;intro z hz;try simp only [Sx.ap1,Sx.ap2,Sx.ap3]
     cases hz;refine rr ?_;refine cl (n0 x hx) ?_;intro y hy;refine rrs ?_;refine cl (n1 y hy) ?_;intro z hz;refine rrs ?_;refine cl (n2 z hz) ?_;intro y hy;refine rrs ?_;refine cl (hy_ y hy) ?_;intro z hz;refine rrs ?_;refine cl (h2 z hz) ?_;intro y hy;refine rrs ?_;exact en y hy
    ·simp only [if_neg c3];have n3:=fun y hy=>noC (TA:=TA) (L:=L) c s y [114,101,97,100] hy c3
     have hnm:=fun y hy=>namedC (TA:=TA) (L:=L) c s y hy
     by_cases c4:mNamed s=true
     ·simp only [if_pos c4];rw [c4] at hnm;have h2:=fun y hy=>begunC (TA:=TA) (L:=L) c N s y c4 (by omega) hg hw hy
      generalize mBegun N s=s2 at *;replace h0:=uh h0;replace n0:=uh n0;replace n1:=uh n1;replace n2:=uh n2;replace n3:=uh n3;replace hnm:=uh hnm;replace h2:=uh h2;refine ug ?_;refine fn_intro Tryz.func129 Tryz.ntmps129 rfl rfl rfl (fun w0=>?_);refine rrs ?_;refine cl (h0) ?_;intro z hz;try simp only [Sx.ap1,Sx.ap2,Sx.ap3]
      cases hz;refine rr ?_;refine cl (n0 x hx) ?_;intro y hy;refine rrs ?_;refine cl (n1 y hy) ?_;intro z hz;refine rrs ?_;refine cl (n2 z hz) ?_;intro y hy;refine rrs ?_;refine cl (n3 y hy) ?_;intro z hz;refine rrs ?_;refine cl (hnm z hz) ?_;intro u hu;try simp only [Sx.ap1,Sx.ap2,Sx.ap3]
      cases hu;refine rr ?_;refine cl (h2 z hz) ?_;intro v hv;refine rrs ?_;exact en v hv
     ·simp only [if_neg c4];rw [show mNamed s=false by simpa using c4] at hnm;replace h0:=uh h0;replace n0:=uh n0;replace n1:=uh n1;replace n2:=uh n2;replace n3:=uh n3;replace hnm:=uh hnm;refine ug ?_;refine fn_intro Tryz.func129 Tryz.ntmps129 rfl rfl rfl (fun w0=>?_);refine rrs ?_;refine cl (h0) ?_;intro z hz;try simp only [Sx.ap1,Sx.ap2,Sx.ap3]
      cases hz;refine rr ?_;refine cl (n0 x hx) ?_;intro y hy;refine rrs ?_;refine cl (n1 y hy) ?_;intro z hz;refine rrs ?_;refine cl (n2 z hz) ?_;intro y hy;refine rrs ?_;refine cl (n3 y hy) ?_;intro z hz;refine rrs ?_;refine cl (hnm z hz) ?_;intro u hu;try simp only [Sx.ap1,Sx.ap2,Sx.ap3]
      cases hu;refine rr ?_;exact en z hz
theorem stmtsC (c n:Nat) (st:CS→CS) (hs:DoesS TA L c 129 st n) (he:∀ s,Ex 0 s (st s)):DoesS TA L c 68 (mStmtsB st) n:=by
 intro s hn hg hw x hx;have h1:=hs s hn hg hw x hx;have e1:=he s;unfold mStmtsB;generalize st s=s1 at *;have g1:=hg.ex e1;have w1:=e1.w;have l1:=e1.ln;generalize hS:mSeqs st s1.toks.length s1=sF at *;replace h1:=uh h1;refine ug ?_;refine fn_intro Tryz.func68 Tryz.ntmps68 rfl rfl rfl (fun w0=>?_);refine rrs ?_;refine cl (h1) ?_;intro y hy;refine rrs ?_;refine lo [0] (fun z:CS×Ad×Nat=>[]) (fun z=>[(0,blk c (csC z.1 z.2.1) 80),(1,row z.2.1.ca z.2.1.cc 105 5 z.1.code.length (insC z.1.code)),(2,row z.2.1.pa z.2.1.pc 94 3 z.1.pats.length (paC z.1.pats)),(3,row z.2.1.na z.2.1.nc 274 5 z.1.ents.length (enC z.1.ents)),(4,row z.2.1.ba z.2.1.bc 3 1 z.1.begs.length (natC z.1.begs)),(5,row z.2.1.ea z.2.1.ec 154 2 z.1.exps.length (syC z.1.exps)),(6,row z.2.1.ia z.2.1.ic 9 1 z.1.imps.length (strC z.1.imps))]) (fun z=>z.1.toks.length≤z.2.2∧z.1.toks.length<n∧Gd z.1∧wt z.1≤1000000000000∧OkX TA L z.1 z.2.1∧mSeqs st z.2.2 z.1=sF) (fun z=>z.2.2) (s1,y,s1.toks.length) ⟨Nat.le_refl _,by dsimp only;omega,g1,by dsimp only;omega,hy,hS⟩ ?_;rintro ⟨s2,x2,m⟩ ⟨hm,hn2,hg2,hw2,hx2,hF⟩ K1 hK1;dsimp only at hm hn2 hg2 hw2 hx2 hF ⊢;unfold csC
 have hstop:¬ (s2.e=0∧mSees [59] s2=true)→sF=s2:=by
  intro h;rw [← hF];cases m with
  | zero=>rfl
  | succ m=>unfold mSeqs;rw [if_neg h]
 by_cases hee:s2.e=0
 ·by_cases hsee:mSees [59] s2=true
  ·have h2:=yesC (TA:=TA) (L:=L) c s2 x2 [59] hx2 hsee;have e2:=ex_sees hsee;have l2:=tail_lt (sees_ne hsee);have w2:=e2.w;obtain ⟨m,rfl⟩:∃ m',m=m'+1:=⟨m-1,by omega⟩
   unfold mSeqs at hF;rw [if_pos ⟨hee,hsee⟩] at hF;generalize mTail s2=s3 at *;have h3:=fun y hy=>hs s3 (by omega) (hg2.ex e2) (by omega) y hy
   have e3:=e2.tr (k := -100) (he s3);have l3:=(he s3).ln;have w3:=e3.w;generalize st s3=s4 at *;replace h2:=uh h2;replace h3:=uh h3;refine rr ?_;refine cl (h2) ?_;intro y hy;refine rrs ?_;refine cl (h3 y hy) ?_;intro z hz;refine rrs ?_;exact ro hK1 (s4,z,m) ⟨by dsimp only;omega,by dsimp only;omega,hg2.ex e3,by dsimp only;omega,hz,hF⟩
  ·have h2:=noC (TA:=TA) (L:=L) c s2 x2 [59] hx2 hsee;have hF2:=hstop (by intro h;exact hsee h.2);subst hF2;replace h2:=uh h2;refine rr ?_;refine cl (h2) ?_;intro y hy;refine rrs ?_;exact en y hy
 ·have hF2:=hstop (by intro h;exact hee h.1);subst hF2;refine rr ?_;exact en x2 hx2
theorem stmtN (c N:Nat):∀ n,n≤N→DoesS TA L c 129 (mStmt N n) n
 | 0,_=>fun s hs=>absurd hs (Nat.not_lt_zero _)
 | n+1,h=>stmtC c N n (mStmtsB (mStmt N n)) (stmtsC c n (mStmt N n) (stmtN c N n (by omega)) (ex_stmt N n)) (fun s=>ex_stmtsB (ex_stmt N n) s) h
theorem stmtsN (c N:Nat):DoesS TA L c 68 (mStmts N) N:=stmtsC c N (mStmt N N) (stmtN c N N (Nat.le_refl _)) (ex_stmt N N)
end
section
variable {TA:Addr} {L:List (Sc.Tk×Nat)}
theorem paramC (c:Nat) (s:CS) (x:Ad) (hx:OkX TA L s x):FnC Tryz.prog 171 [cP c] (cmH c s x) [tkB TA L,spaceV] (fun _=>.tuple #[.string (Sc.bs (mParam s).1.1),.int .i64 (mParam s).1.2.1,.bool (mParam s).1.2.2]) (fun y:Ad=>cmH c (mParam s).2 y) (fun y=>OkX TA L (mParam s).2 y):=by
 unfold mParam;by_cases hs:mSees [40] s=true
 ·simp only [if_pos hs];have h1:=yesC (TA:=TA) (L:=L) c s x [40] hx hs;generalize mTail s=s1 at *;have h2:=fun y hy=>nameC (TA:=TA) (L:=L) c s1 y hy
  generalize mHere s1=pl at *;generalize mName s1=a at *;obtain ⟨an,s2⟩:=a;dsimp only at *;have h3:=fun y hy=>mustC (TA:=TA) (L:=L) c s2 y [41] hy
  generalize mMust [41] s2=s3 at *;replace h1:=uh h1;replace h2:=uh h2;replace h3:=uh h3;refine ug ?_;refine fn_intro Tryz.func171 Tryz.ntmps171 rfl rfl rfl (fun w0=>?_);refine rrs ?_;refine cl (h1) ?_;intro y hy;refine rrs ?_;refine cl (h2 y hy) ?_;intro z hz;refine rrs ?_;refine cl (h3 z hz) ?_;intro y hy;refine rrs ?_;exact en y hy
 ·simp only [if_neg hs];have h1:=noC (TA:=TA) (L:=L) c s x [40] hx hs;replace h1:=uh h1;refine ug ?_;refine fn_intro Tryz.func171 Tryz.ntmps171 rfl rfl rfl (fun w0=>?_);refine rrs ?_;refine cl (h1) ?_;intro y hy;refine rrs ?_;exact en y hy
theorem freshC (c:Nat) (s:CS) (x:Ad) (name:List UInt8) (pl n:Int) (hn:s.ents.length≤1000000000000) (hb:s.begs.length≤1000000000000) (hbs:∀ x∈s.begs,x≤1000000000000) (hx:OkX TA L s x):FnC Tryz.prog 170 [cP c,.string (Sc.bs name),.int .i64 pl,.int .i64 n] (cmH c s x) [] (fun _=>.tuple #[]) (fun y:Ad=>cmH c (mFresh name pl n s) y) (fun y=>OkX TA L (mFresh name pl n s) y):=by
 have h1:=findC c s x (Sc.bs name) hn hb hbs;unfold mFresh mFind;dsimp only;generalize findG s.ents s.begs (Sc.bs name) s.ents.length s.begs.length=r at *;obtain ⟨rt,rd,rok⟩:=r;dsimp only at *;by_cases hc:s.e=0∧rok=true
 ·simp only [if_pos hc];have h2:=stopC (TA:=TA) (L:=L) c s x 6 pl;have hne:(mStop 6 pl s).e≠0:=stop_e _ _ _ (by decide);obtain ⟨he,rfl⟩:=hc;generalize mStop 6 pl s=s1 at *;simp only [if_neg (show ¬ (s1.e=0∧n=255) from fun h=>hne h.1)];replace h1:=uh h1;replace h2:=uh h2;refine ug ?_;refine fn_intro Tryz.func170 Tryz.ntmps170 rfl rfl rfl (fun w0=>?_);refine rrs ?_;refine cl (h1) ?_;intro _ hy;try simp only [Sx.ap1,Sx.ap2,Sx.ap3]
  cases hy;refine rr ?_;intro b1 _;refine rr ?_;refine cl (h2) ?_;intro y hy;refine rrs ?_;exact en y hy
 ·simp only [if_neg hc];by_cases hn2:s.e=0∧n=255
  ·simp only [if_pos hn2];have h2:=stopC (TA:=TA) (L:=L) c s x 4 pl;obtain ⟨he,hnn⟩:=hn2
   have hr:rok=false:=by
    cases rok with
    | false=>rfl
    | true=>exact absurd ⟨he,rfl⟩ hc
   subst hr;generalize mStop 4 pl s=s1 at *;replace h1:=uh h1;replace h2:=uh h2;refine ug ?_;refine fn_intro Tryz.func170 Tryz.ntmps170 rfl rfl rfl (fun w0=>?_);refine rrs ?_;refine cl (h1) ?_;intro _ hy;try simp only [Sx.ap1,Sx.ap2,Sx.ap3]
   cases hy;refine rr ?_;intro b1 _;refine rr ?_;refine cl (h2) ?_;intro y hy;refine rrs ?_;exact en y hy
  ·simp only [if_neg hn2];replace h1:=uh h1;refine ug ?_;by_cases he:s.e=0
   ·have hr:rok=false:=by
     cases rok with
     | false=>rfl
     | true=>exact absurd ⟨he,rfl⟩ hc
    have hnn:¬ n=255:=fun h=>hn2 ⟨he,h⟩
    subst hr;refine fn_intro Tryz.func170 Tryz.ntmps170 rfl rfl rfl (fun w0=>?_);refine rrs ?_;refine cl (h1) ?_;intro _ hy;try simp only [Sx.ap1,Sx.ap2,Sx.ap3]
    cases hy;refine rr ?_;intro b1 _;refine rr ?_;exact en x hx
   ·skip
    refine fn_intro Tryz.func170 Tryz.ntmps170 rfl rfl rfl (fun w0=>?_);refine rrs ?_;refine cl (h1) ?_;intro _ hy;try simp only [Sx.ap1,Sx.ap2,Sx.ap3]
    cases hy;refine rr ?_;intro b1 _;refine rr ?_;exact en x hx
theorem ownsC (c:Nat) (s:CS) (x:Ad) (name:List UInt8) (pl size:Int) (h2:2≤size∧size≤1000000000000) (hn:s.ents.length≤1000000000000) (hb:s.begs.length≤1000000000000) (hbs:∀ x∈s.begs,x≤1000000000000) (hx:OkX TA L s x):FnC Tryz.prog 173 [cP c,.string (Sc.bs name),.int .i64 pl,.int .i64 size] (cmH c s x) [] (fun _=>.int .i64 (size+1)) (fun y:Ad=>cmH c (mOwns name pl size s) y) (fun y=>OkX TA L (mOwns name pl size s) y):=by
 have h1:=errDefC (TA:=TA) (L:=L) c s x name pl ⟨2,size,0,false⟩ hn hb hbs hx;unfold mOwns;dsimp only;generalize mDefine name pl ⟨2,size,0,false⟩ s=s1 at *;by_cases hc:s1.e=0∧size-2=20
 ·simp only [if_pos hc];have h3:=fun y=>stopC (TA:=TA) (L:=L) c s1 y 4 pl
  generalize mStop 4 pl s1=s2 at *;obtain ⟨he,hz⟩:=hc;replace h1:=uh h1;replace h3:=uh h3;refine ug ?_;refine fn_intro Tryz.func173 Tryz.ntmps173 rfl rfl rfl (fun w0=>?_);refine rrs ?_;refine cl (h1) ?_;intro y hy;refine rrs ?_;refine cl (h3 y) ?_;intro z hz;refine rrs ?_;exact en z hz
 ·simp only [if_neg hc];replace h1:=uh h1;refine ug ?_;by_cases he:s1.e=0
  ·have hz:¬ size-2=20:=fun h=>hc ⟨he,h⟩
   refine fn_intro Tryz.func173 Tryz.ntmps173 rfl rfl rfl (fun w0=>?_);refine rrs ?_;refine cl (h1) ?_;intro y hy;refine rrs ?_;exact en y hy
  ·skip
   refine fn_intro Tryz.func173 Tryz.ntmps173 rfl rfl rfl (fun w0=>?_);refine rrs ?_;refine cl (h1) ?_;intro y hy;refine rrs ?_;exact en y hy
theorem leaveC (c:Nat) (s:CS) (x:Ad) (size:Int) (hw:s.code.length+4≤1000000000000) (hx:OkX TA L s x):FnC Tryz.prog 175 [cP c,.int .i64 size] (cmH c s x) [] (fun _=>.tuple #[]) (fun y:Ad=>cmH c (mLeave size s) y) (fun y=>OkX TA L (mLeave size s) y):=by
 unfold mLeave;have h1:=putC (TA:=TA) (L:=L) c s x ⟨10,29,30,0,size⟩ (by omega) hx;have l1:(mPut ⟨10,29,30,0,size⟩ s).code.length=s.code.length+1:=len_snoc _ _;generalize mPut ⟨10,29,30,0,size⟩ s=s1 at *;have h2:=fun y hy=>putC (TA:=TA) (L:=L) c s1 y ⟨12,31,30,0,0⟩ (by omega) hy
 have l2:(mPut ⟨12,31,30,0,0⟩ s1).code.length=s1.code.length+1:=len_snoc _ _;generalize mPut ⟨12,31,30,0,0⟩ s1=s2 at *;have h3:=fun y hy=>putC (TA:=TA) (L:=L) c s2 y ⟨12,30,30,0,1⟩ (by omega) hy
 have l3:(mPut ⟨12,30,30,0,1⟩ s2).code.length=s2.code.length+1:=len_snoc _ _;generalize mPut ⟨12,30,30,0,1⟩ s2=s3 at *;have h4:=fun y hy=>putC (TA:=TA) (L:=L) c s3 y ⟨19,31,0,0,0⟩ (by omega) hy
 generalize mPut ⟨19,31,0,0,0⟩ s3=s4 at *;replace h1:=uh h1;replace h2:=uh h2;replace h3:=uh h3;replace h4:=uh h4;refine ug ?_;refine fn_intro Tryz.func175 Tryz.ntmps175 rfl rfl rfl (fun w0=>?_);refine rrs ?_;refine cl (h1) ?_;intro y hy;refine rrs ?_;refine cl (h2 y hy) ?_;intro z hz;refine rrs ?_;refine cl (h3 z hz) ?_;intro y hy;refine rrs ?_;refine cl (h4 y hy) ?_;intro z hz;refine rrs ?_;exact en z hz
end
section
variable {TA:Addr} {L:List (Sc.Tk×Nat)}
theorem put_len (i:In) (s:CS):(mPut i s).code.length=s.code.length+1:=len_snoc _ _
theorem enterC (c:Nat) (s:CS) (x:Ad) (size:Int) (takes:Bool) (h2:2≤size∧size≤1000000000000) (hw:s.code.length+size+10≤1000000000000) (hp:s.pats.length+1≤1000000000000) (hx:OkX TA L s x):FnC Tryz.prog 174 [cP c,.int .i64 size,.bool takes] (cmH c s x) [] (fun _=>.tuple #[]) (fun y:Ad=>cmH c (mEnter size takes s) y) (fun y=>OkX TA L (mEnter size takes s) y):=by
 unfold mEnter;have h1:=putC (TA:=TA) (L:=L) c s x ⟨10,29,29,0,-size⟩ (by omega) hx;have l1:=put_len ⟨10,29,29,0,-size⟩ s;have p1:(mPut ⟨10,29,29,0,-size⟩ s).pats=s.pats:=rfl;generalize mPut ⟨10,29,29,0,-size⟩ s=s1 at *;have h2':=fun y hy=>markC (TA:=TA) (L:=L) c s1 y ⟨10,1,29,0,0⟩ 3 0 (by omega) (by rw [p1];omega) hy
 have l2:(mMark ⟨10,1,29,0,0⟩ 3 0 s1).code.length=s1.code.length+1:=len_snoc _ _;generalize mMark ⟨10,1,29,0,0⟩ 3 0 s1=s2 at *;have h3:=fun y hy=>putC (TA:=TA) (L:=L) c s2 y ⟨14,1,7,0,32767⟩ (by omega) hy
 have l3:=put_len ⟨14,1,7,0,32767⟩ s2;generalize mPut ⟨14,1,7,0,32767⟩ s2=s3 at *;have h4:=fun y hy=>putC (TA:=TA) (L:=L) c s3 y ⟨13,31,29,0,0⟩ (by omega) hy
 have l4:=put_len ⟨13,31,29,0,0⟩ s3;generalize mPut ⟨13,31,29,0,0⟩ s3=s4 at *;have h5:=fun y hy=>putC (TA:=TA) (L:=L) c s4 y ⟨13,30,29,0,1⟩ (by omega) hy
 have l5:=put_len ⟨13,30,29,0,1⟩ s4;generalize mPut ⟨13,30,29,0,1⟩ s4=s5 at *;have h6:=fun y hy=>putC (TA:=TA) (L:=L) c s5 y ⟨10,30,29,0,0⟩ (by omega) hy
 have l6:=put_len ⟨10,30,29,0,0⟩ s5;generalize mPut ⟨10,30,29,0,0⟩ s5=s6 at *;generalize hS:mEnters takes (size-2).toNat 2 s6=sF at *;replace h1:=uh h1;replace h2':=uh h2';replace h3:=uh h3;replace h4:=uh h4;replace h5:=uh h5;replace h6:=uh h6;refine ug ?_;refine fn_intro Tryz.func174 Tryz.ntmps174 rfl rfl rfl (fun w0=>?_);refine rrs ?_;refine cl (h1) ?_;intro y hy;refine rrs ?_;refine cl (h2' y hy) ?_;intro z hz;refine rrs ?_;refine cl (h3 z hz) ?_;intro y hy;refine rrs ?_;refine cl (h4 y hy) ?_;intro z hz;refine rrs ?_;refine cl (h5 z hz) ?_;intro y hy;refine rrs ?_;refine cl (h6 y hy) ?_;intro z hz;refine rrs ?_;refine lo [0,1,2] (fun z:Nat×CS×Ad=>[(6,.int .i64 ((z.1:Int)+2))]) (fun z=>[(0,blk c (csC z.2.1 z.2.2) 80),(1,row z.2.2.ca z.2.2.cc 105 5 z.2.1.code.length (insC z.2.1.code)),(2,row z.2.2.pa z.2.2.pc 94 3 z.2.1.pats.length (paC z.2.1.pats)),(3,row z.2.2.na z.2.2.nc 274 5 z.2.1.ents.length (enC z.2.1.ents)),(4,row z.2.2.ba z.2.2.bc 3 1 z.2.1.begs.length (natC z.2.1.begs)),(5,row z.2.2.ea z.2.2.ec 154 2 z.2.1.exps.length (syC z.2.1.exps)),(6,row z.2.2.ia z.2.2.ic 9 1 z.2.1.imps.length (strC z.2.1.imps))]) (fun z=>z.1≤(size-2).toNat∧z.2.1.code.length=s6.code.length+z.1∧OkX TA L z.2.1 z.2.2∧mEnters takes ((size-2).toNat-z.1) ((z.1:Int)+2) z.2.1=sF) (fun z=>(size-2).toNat-z.1) (0,s6,z) ⟨Nat.zero_le _,rfl,hz,hS⟩ ?_;rintro ⟨k,s7,x7⟩ ⟨hk,hl,hx7,hF⟩ K1 hK1;dsimp only at hk hl hx7 hF ⊢;unfold csC;by_cases hlt:k<(size-2).toNat
 ·obtain ⟨m,hm⟩:∃ m,(size-2).toNat-k=m+1:=⟨(size-2).toNat-k-1,by omega⟩
  have hm2:(size-2).toNat-(k+1)=m:=by omega
  rw [hm] at hF;unfold mEnters at hF;have hk3:((k+1:Nat):Int)+2=(k:Int)+2+1:=by omega
  by_cases ht:takes=true∧(k:Int)+2=2
  ·rw [if_pos ht] at hF;obtain ⟨rfl,hk0⟩:=ht;have h8:=putC (TA:=TA) (L:=L) c s7 x7 ⟨13,4,30,0,(k:Int)+2⟩ (by omega) hx7;have l8:=put_len ⟨13,4,30,0,(k:Int)+2⟩ s7;generalize mPut ⟨13,4,30,0,(k:Int)+2⟩ s7=s8 at *;replace h8:=uh h8;refine rr ?_;intro b1 _;refine rr ?_;refine dx [0,1,2,3,4] [] [] ?_;refine rr ?_;refine cle (h8) ?_;intro u hu;refine rrs ?_;exact ro hK1 (k+1,s8,u) ⟨by dsimp only;omega,by dsimp only;omega,hu,by dsimp only;rw [hm2,hk3];exact hF⟩ (hE:=by rw [hk3];repeat (first | exact trivial | refine ⟨rfl,?_⟩))
  ·rw [if_neg ht] at hF;have h8:=putC (TA:=TA) (L:=L) c s7 x7 ⟨13,0,30,0,(k:Int)+2⟩ (by omega) hx7;have l8:=put_len ⟨13,0,30,0,(k:Int)+2⟩ s7;generalize mPut ⟨13,0,30,0,(k:Int)+2⟩ s7=s8 at *;replace h8:=uh h8;cases takes with
   | true=>
    have hk0:¬ ((k:Int)+2=2):=fun h=>ht ⟨rfl,h⟩
    refine rr ?_;intro b1 _;refine rr ?_;refine dx [0,1,2,3,4] [] [] ?_;refine rr ?_;refine cle (h8) ?_;intro u hu;refine rrs ?_;exact ro hK1 (k+1,s8,u) ⟨by dsimp only;omega,by dsimp only;omega,hu,by dsimp only;rw [hm2,hk3];exact hF⟩ (hE:=by rw [hk3];repeat (first | exact trivial | refine ⟨rfl,?_⟩))
   | false=>
    refine rr ?_;intro b1 _;refine rr ?_;refine dx [0,1,2,3,4] [] [] ?_;refine rr ?_;refine cle (h8) ?_;intro u hu;refine rrs ?_;exact ro hK1 (k+1,s8,u) ⟨by dsimp only;omega,by dsimp only;omega,hu,by dsimp only;rw [hm2,hk3];exact hF⟩ (hE:=by rw [hk3];repeat (first | exact trivial | refine ⟨rfl,?_⟩))
 ·have hk0:(size-2).toNat-k=0:=by omega
  rw [hk0] at hF;have hF2:sF=s7:=hF.symm;subst hF2;refine rr ?_;exact en x7 hx7
end
section
variable {TA:Addr} {L:List (Sc.Tk×Nat)}
theorem GD.gd {s:CS} (h:GD s):Gd s:=⟨h.tk,h.bg,h.nm⟩
theorem strC_snoc (l:List ByteArray) (e:ByteArray):strC (l++[e])=strC l++[.string e]:=by simp [strC]
theorem GD.bs {s:CS} (h:GD s) (hn:wt s≤1000000000000):∀ x∈s.begs,x≤1000000000000:=fun b hb=>by have h1:=h.bg b hb;have:=wt_ents hn;omega
theorem importedC (c:Nat) (s:CS) (x:Ad) (hg:GD s) (hw:wt s+2≤1000000000000) (hx:OkX TA L s x):FnC Tryz.prog 126 [cP c] (cmH c s x) [tkB TA L,spaceV] (fun _=>.tuple #[]) (fun y:Ad=>cmH c (mImported s) y) (fun y=>OkX TA L (mImported s) y):=by
 have h1:=nameC c s x hx;have e1:=ex_name s;unfold mImported;dsimp only;generalize mHere s=pl at *;generalize mName s=a at *;obtain ⟨an,s1⟩:=a;dsimp only at *;have g1:=e1.dx.g hg;have w1:=e1.w;have h2:=fun y hy=>freshC (TA:=TA) (L:=L) c s1 y an pl (s1.imps.length:Int) (by have:=wt_ents (Int.le_refl (wt s1));omega) (by have:=wt_begs (Int.le_refl (wt s1));omega) (g1.bs (by omega)) hy
 have e2:=e1.tr (k:=0) (ex_fresh an pl (s1.imps.length:Int) s1);generalize mFresh an pl (s1.imps.length:Int) s1=s2 at *;have h3:=fun y hy=>paramC (TA:=TA) (L:=L) c s2 y hy
 have e3:=e2.tr (k:=0) (ex_param s2);generalize mParam s2=p at *;obtain ⟨⟨pn,pp,pt⟩,s3⟩:=p;dsimp only at *;have g3:=e3.dx.g hg;have w3:=e3.w;have h4:=fun y hy=>errDefC (TA:=TA) (L:=L) c s3 y an pl ⟨4,(s1.imps.length:Int),0,pt⟩ (by have:=wt_ents (Int.le_refl (wt s3));omega) (by have:=wt_begs (Int.le_refl (wt s3));omega) (g3.bs (by omega)) hy
 have d4:=e3.dx.tr (k:=1) (dx_define an pl ⟨4,(s1.imps.length:Int),0,pt⟩ s3);generalize mDefine an pl ⟨4,(s1.imps.length:Int),0,pt⟩ s3=s4 at *;have w4:=d4.w;have hnw:wt s4≤1000000000000:=by omega
 have hni:(s4.imps.length:Int)≤1000000000000:=by unfold wt at hnw;omega
 have h5:=fun y hy=>mustC (TA:=TA) (L:=L) c { s4 with imps:=s4.imps++[Sc.bs an] } y [59] hy
 generalize hs5:mMust [59] { s4 with imps:=s4.imps++[Sc.bs an] }=s5 at *;replace h1:=uh h1;replace h2:=uh h2;replace h3:=uh h3;replace h4:=uh h4;replace h5:=uh h5;refine ug ?_;dsimp only at h5;rw [len_snoc,strC_snoc] at h5;refine fn_intro Tryz.func126 Tryz.ntmps126 rfl rfl rfl (fun w0=>?_);refine rrs ?_;refine cl (h1) ?_;intro y hy;refine rrs ?_;intro b1 _;refine rr ?_;refine cl (h2 y hy) ?_;intro z hz;refine rrs ?_;refine cl (h3 z hz) ?_;intro y hy;refine rrs ?_;refine cl (h4 y hy) ?_;intro z hz;refine rrs ?_;intro b2 _;refine rr ?_;rintro ⟨a1,c1⟩ ⟨hc1,_⟩;refine rr ?_;refine cl (h5 { z with ia:=a1,ic:=c1 } (hz.same rfl rfl rfl)) ?_;intro y hy;refine rrs ?_;exact en y hy
end
section
variable {TA:Addr} {L:List (Sc.Tk×Nat)}
theorem wt_pos (s:CS):0≤wt s:=by unfold wt;omega
theorem syC_snoc (l:List Sy) (e:Sy):syC (l++[e])=syC l++syV e:=by simp [syC]
theorem wt_exps {s:CS} {k:Int} (h:wt s≤k):(s.exps.length:Int)≤k:=by unfold wt at h;omega
theorem routineC (c N:Nat) (s:CS) (x:Ad) (hN:s.toks.length<N) (hg:GD s) (hw:wt s+100≤1000000000000) (hx:OkX TA L s x):FnC Tryz.prog 127 [cP c] (cmH c s x) [tkB TA L,spaceV] (fun _=>.tuple #[]) (fun y:Ad=>cmH c (mRoutine N s) y) (fun y=>OkX TA L (mRoutine N s) y):=by
 have h1:=nameC c s x hx;have e1:=ex_name s;unfold mRoutine;dsimp only;generalize mHere s=pl at *;generalize mName s=a at *;obtain ⟨an,s1⟩:=a;dsimp only at *;have g1:=e1.dx.g hg;have w1:=e1.w;have h1b:=fun y=>hereC2 c s1 y
 have h2:=fun y hy=>freshC (TA:=TA) (L:=L) c s1 y an pl (s1.exps.length:Int) (by have:=wt_ents (Int.le_refl (wt s1));omega) (by have:=wt_begs (Int.le_refl (wt s1));omega) (g1.bs (by omega)) hy
 have e2:=e1.tr (k:=0) (ex_fresh an pl (s1.exps.length:Int) s1);generalize mFresh an pl (s1.exps.length:Int) s1=s2 at *;have h3:=fun y hy=>paramC (TA:=TA) (L:=L) c s2 y hy
 have e3:=e2.tr (k:=0) (ex_param s2);generalize mParam s2=p at *;obtain ⟨⟨pn,pp,pt⟩,s3⟩:=p;dsimp only at *;have g3:=e3.dx.g hg;have w3:=e3.w;have h4:=fun y hy=>errDefC (TA:=TA) (L:=L) c s3 y an pl ⟨3,(s1.code.length:Int),0,pt⟩ (by have:=wt_ents (Int.le_refl (wt s3));omega) (by have:=wt_begs (Int.le_refl (wt s3));omega) (g3.bs (by omega)) hy
 have d4:=e3.dx.tr (k:=1) (dx_define an pl ⟨3,(s1.code.length:Int),0,pt⟩ s3);generalize mDefine an pl ⟨3,(s1.code.length:Int),0,pt⟩ s3=s4 at *;have w4:=d4.w;have hni:(s4.exps.length:Int)≤1000000000000:=wt_exps (by omega);have h5:=fun y hy=>mustC (TA:=TA) (L:=L) c { s4 with exps:=s4.exps++[⟨Sc.bs an,(s1.code.length:Int)⟩] } y [59] hy
 have d5:=(d4.tr (k:=2) (dx_exp ⟨Sc.bs an,(s1.code.length:Int)⟩ s4)).tr (k:=2) (ex_must [59] _).dx;generalize mMust [59] { s4 with exps:=s4.exps++[⟨Sc.bs an,(s1.code.length:Int)⟩] }=s5 at *;have w5:=d5.w;have h6:=fun y hy=>openC (TA:=TA) (L:=L) c s5 y (by have:=wt_begs (Int.le_refl (wt s5));omega) hy
 have d6:=d5.tr (k:=3) (dx_open s5);generalize mOpen s5=s6 at *;have w6:=d6.w;have g6:=d6.g hg;replace h1:=uh h1;replace h1b:=uh h1b;replace h2:=uh h2;replace h3:=uh h3;replace h4:=uh h4;replace h5:=uh h5;replace h6:=uh h6;dsimp only at h5;rw [len_snoc,syC_snoc] at h5;unfold syV at h5;cases pt with
 | true=>
  simp only [if_true];have h7:=fun y hy=>ownsC (TA:=TA) (L:=L) c s6 y pn pp 2 (by omega) (by have:=wt_ents (Int.le_refl (wt s6));omega) (by have:=wt_begs (Int.le_refl (wt s6));omega) (g6.bs (by omega)) hy
  have d7:=d6.tr (k:=4) (dx_owns pn pp 2 s6);generalize mOwns pn pp 2 s6=s7 at *;have w7:=d7.w;have l7:=d7.ln;have s7g:=d7.g hg;replace h7:=uh h7;by_cases hv:mSees [118,97,114] s7=true
  ·simp only [if_pos hv];have h8:=fun y hy=>yesC (TA:=TA) (L:=L) c s7 y [118,97,114] hy hv
   have e8:=ex_sees hv;have l8:=tail_lt (sees_ne hv);obtain ⟨fu,hfu⟩:∃ fu,fu=s7.toks.length:=⟨_,rfl⟩
   rw [← hfu];generalize mTail s7=s8 at *;have g8:=e8.dx.g s7g;have w8:=e8.w;obtain ⟨rg,rl,rs,rw_⟩:=dx_vars fu 3 s8 g8;generalize hR:mVars fu 3 s8=R at *;obtain ⟨sz,s9⟩:=R;dsimp only at rg rl rs rw_ ⊢;have p9:=wt_pos s9;have h9:=fun y hy=>mustC (TA:=TA) (L:=L) c s9 y [59] hy
   have e9:=ex_must [59] s9;generalize mMust [59] s9=sA at *;have wA:=e9.w;have lA:=e9.ln;have sAg:=e9.dx.g rg;have hB:=fun y hy=>mustC (TA:=TA) (L:=L) c sA y [98,101,103,105,110] hy
   have eB:=(ex_must [98,101,103,105,110] sA)
   generalize mMust [98,101,103,105,110] sA=sB at *;have wB:=eB.w;have hC:=fun y hy=>enterC (TA:=TA) (L:=L) c sB y sz true (by omega) (by have:=wt_code (Int.le_refl (wt sB));omega) (by have:=wt_pats (Int.le_refl (wt sB));omega) hy
   have eC:=eB.tr (k:=sz+5) (ex_enter sz true (by omega) sB);generalize mEnter sz true sB=sC at *;have wC:=eC.w;have lC:=eC.ln;have gC:=eC.dx.g sAg;have hD:=fun y hy=>stmtsN (TA:=TA) (L:=L) c N sC (by omega) gC.gd (by omega) y hy
   have eD:=eC.tr (k:=sz+5) (ex_stmts N sC);generalize mStmts N sC=sD at *;have hE:=fun y hy=>mustC (TA:=TA) (L:=L) c sD y [101,110,100] hy
   have eE:=eD.tr (k:=sz+5) (ex_must [101,110,100] sD);generalize mMust [101,110,100] sD=sE at *;have hF:=fun y hy=>mustC (TA:=TA) (L:=L) c sE y [59] hy
   have eF:=eE.tr (k:=sz+5) (ex_must [59] sE);generalize mMust [59] sE=sF at *;have wF:=eF.w;have hG:=fun y hy=>leaveC (TA:=TA) (L:=L) c sF y sz (by have:=wt_code (Int.le_refl (wt sF));omega) hy
   have eG:=eF.tr (k:=sz+9) (ex_leave sz sF);generalize mLeave sz sF=sG at *;have wG:=eG.w;have gG:=eG.dx.g sAg;have hH:=fun y hy=>closeC (TA:=TA) (L:=L) c sG y (by have:=wt_ents (Int.le_refl (wt sG));omega) (by have:=wt_begs (Int.le_refl (wt sG));omega) gG.bg hy
   generalize mClose sG=sH at *;replace h8:=uh h8;replace h9:=uh h9;replace hB:=uh hB;replace hC:=uh hC;replace hD:=uh hD;replace hE:=uh hE;replace hF:=uh hF;replace hG:=uh hG;replace hH:=uh hH;refine ug ?_;refine fn_intro Tryz.func127 Tryz.ntmps127 rfl rfl rfl (fun w0=>?_);refine rrs ?_;refine cl (h1) ?_;intro y hy;refine rrs ?_;refine cl (h1b y) ?_;intro _ hz;try simp only [Sx.ap1,Sx.ap2,Sx.ap3]
   cases hz;refine rr ?_;intro b1 _;refine rr ?_;refine cl (h2 y hy) ?_;intro z hz;refine rrs ?_;refine cl (h3 z hz) ?_;intro y hy;refine rrs ?_;refine cl (h4 y hy) ?_;intro z hz;refine rrs ?_;refine dr [0,1,2,3,4,5,6,7,8,9,10,11,12,13,14,15] [5,8] [0,7] ?_;refine rr ?_;refine rr ?_;intro b2 _;refine rr ?_;rintro ⟨a1,c1⟩ ⟨hc1,_⟩;refine rr ?_;refine cl (h5 { z with ea:=a1,ec:=c1 } (hz.same rfl rfl rfl)) ?_;intro y hy;refine rrs ?_;refine cl (h6 y hy) ?_;intro z hz;refine rrs ?_;refine cl (h7 z hz) ?_;intro y hy;refine rrs ?_;refine cl (h8 y hy) ?_;intro z hz;refine rrs ?_;refine lo [0,7] (fun z:Int×Bool×CS×Ad×Nat=>[(8,.int .i64 z.1),(9,.bool z.2.1)]) (fun z=>[(0,blk c (csC z.2.2.1 z.2.2.2.1) 80),(1,row z.2.2.2.1.ca z.2.2.2.1.cc 105 5 z.2.2.1.code.length (insC z.2.2.1.code)),(2,row z.2.2.2.1.pa z.2.2.2.1.pc 94 3 z.2.2.1.pats.length (paC z.2.2.1.pats)),(3,row z.2.2.2.1.na z.2.2.2.1.nc 274 5 z.2.2.1.ents.length (enC z.2.2.1.ents)),(4,row z.2.2.2.1.ba z.2.2.2.1.bc 3 1 z.2.2.1.begs.length (natC z.2.2.1.begs)),(5,row z.2.2.2.1.ea z.2.2.2.1.ec 154 2 z.2.2.1.exps.length (syC z.2.2.1.exps)),(6,row z.2.2.2.1.ia z.2.2.2.1.ic 9 1 z.2.2.1.imps.length (strC z.2.2.1.imps))]) (fun z=>OkX TA L z.2.2.1 z.2.2.2.1∧(z.2.1=true→z.2.2.1.toks.length<z.2.2.2.2∧GD z.2.2.1∧2≤z.1∧wt z.2.2.1+2*z.1≤wt s8+2*3∧mVars z.2.2.2.2 z.1 z.2.2.1=(sz,s9))∧(z.2.1=false→(z.1,z.2.2.1)=(sz,s9))) (fun z=>if z.2.1=true then z.2.2.2.2+1 else 0) (3,true,s8,z,fu) ⟨hz,fun _=>⟨by dsimp only;omega,g8,by dsimp only;omega,Int.le_refl _,hR⟩,fun h=>by cases h⟩ ?_;rintro ⟨sz2,more,q,xq,m⟩ ⟨hxq,hmore,hno⟩ K1 hK1;dsimp only at hxq hmore hno ⊢;unfold csC;cases more with
   | false=>
    have hq:=hno rfl;cases hq;by_cases he9:s9.e=0
    ·skip
     refine rr ?_;refine cl (h9 xq hxq) ?_;intro u hu;refine rrs ?_;refine cl (hB u hu) ?_;intro v hv;refine rrs ?_;refine cl (hC v hv) ?_;intro u hu;refine rrs ?_;refine cl (hD u hu) ?_;intro v hv;refine rrs ?_;refine cl (hE v hv) ?_;intro u hu;refine rrs ?_;refine cl (hF u hu) ?_;intro v hv;refine rrs ?_;refine cl (hG v hv) ?_;intro u hu;refine rrs ?_;refine cl (hH u hu) ?_;intro v hv;refine rrs ?_;exact en v hv
    ·skip
     refine rr ?_;refine cl (h9 xq hxq) ?_;intro u hu;refine rrs ?_;refine cl (hB u hu) ?_;intro v hv;refine rrs ?_;refine cl (hC v hv) ?_;intro u hu;refine rrs ?_;refine cl (hD u hu) ?_;intro v hv;refine rrs ?_;refine cl (hE v hv) ?_;intro u hu;refine rrs ?_;refine cl (hF u hu) ?_;intro v hv;refine rrs ?_;refine cl (hG v hv) ?_;intro u hu;refine rrs ?_;refine cl (hH u hu) ?_;intro v hv;refine rrs ?_;exact en v hv
   | true=>
    obtain ⟨r1,r2,r3,r4,r5⟩:=hmore rfl;have hqw:=wt_pos q;obtain ⟨m,rfl⟩:∃ m',m=m'+1:=⟨m-1,by omega⟩
    unfold mVars at r5;by_cases heq:q.e=0
    ·rw [if_pos heq] at r5;dsimp only at r5;have k1:=nameC (TA:=TA) (L:=L) c q xq hxq;have f1:=ex_name q;generalize mHere q=ql at *;generalize mName q=qa at *;obtain ⟨qn,q1⟩:=qa;dsimp only at k1 f1 r5;have fw1:=f1.w;have fg1:=f1.dx.g r2;have k2:=fun y hy=>ownsC (TA:=TA) (L:=L) c q1 y qn ql sz2 (by omega) (by have:=wt_ents (Int.le_refl (wt q1));omega) (by have:=wt_begs (Int.le_refl (wt q1));omega) (fg1.bs (by omega)) hy
     have f2:=f1.dx.tr (k:=1) (dx_owns qn ql sz2 q1);generalize mOwns qn ql sz2 q1=q2 at *;have fw2:=f2.w;have fl2:=f2.ln;by_cases h44:mSees [44] q2=true
     ·rw [if_pos h44] at r5;have k3:=fun y hy=>yesC (TA:=TA) (L:=L) c q2 y [44] hy h44
      have f3:=f2.tr (k := -99) (ex_sees h44).dx;have fl3:=tail_lt (sees_ne h44);generalize mTail q2=q3 at *;have fw3:=f3.w;have fg3:=f3.g r2;replace k1:=uh k1;replace k2:=uh k2;replace k3:=uh k3;refine rr ?_;refine cl (k1) ?_;intro u hu;refine rrs ?_;refine cl (k2 u hu) ?_;intro v hv;refine rrs ?_;refine cl (k3 v hv) ?_;intro u hu;refine rrs ?_;exact ro hK1 (sz2+1,true,q3,u,m) ⟨hu,fun _=>⟨by dsimp only;omega,fg3,by dsimp only;omega,by dsimp only;omega,r5⟩,fun h=>by cases h⟩ (hμ:=by simp)
     ·rw [if_neg h44] at r5;have k3:=fun y hy=>noC (TA:=TA) (L:=L) c q2 y [44] hy h44
      replace k1:=uh k1;replace k2:=uh k2;replace k3:=uh k3;refine rr ?_;refine cl (k1) ?_;intro u hu;refine rrs ?_;refine cl (k2 u hu) ?_;intro v hv;refine rrs ?_;refine cl (k3 v hv) ?_;intro u hu;refine rrs ?_;exact ro hK1 (sz2+1,false,q2,u,m) ⟨hu,(fun h=>by cases h),fun _=>r5⟩ (hμ:=by simp)
    ·rw [if_neg heq] at r5;cases r5;refine rr ?_;refine cl (h9 xq hxq) ?_;intro u hu;refine rrs ?_;refine cl (hB u hu) ?_;intro v hv;refine rrs ?_;refine cl (hC v hv) ?_;intro u hu;refine rrs ?_;refine cl (hD u hu) ?_;intro v hv;refine rrs ?_;refine cl (hE v hv) ?_;intro u hu;refine rrs ?_;refine cl (hF u hu) ?_;intro v hv;refine rrs ?_;refine cl (hG v hv) ?_;intro u hu;refine rrs ?_;refine cl (hH u hu) ?_;intro v hv;refine rrs ?_;exact en v hv
  ·simp only [if_neg hv];have h8:=fun y hy=>noC (TA:=TA) (L:=L) c s7 y [118,97,114] hy hv
   have hB:=fun y hy=>mustC (TA:=TA) (L:=L) c s7 y [98,101,103,105,110] hy
   have eB:=(ex_must [98,101,103,105,110] s7)
   generalize mMust [98,101,103,105,110] s7=sB at *;have wB:=eB.w;have hC:=fun y hy=>enterC (TA:=TA) (L:=L) c sB y 3 true (by omega) (by have:=wt_code (Int.le_refl (wt sB));omega) (by have:=wt_pats (Int.le_refl (wt sB));omega) hy
   have eC:=eB.tr (k:=3+5) (ex_enter 3 true (by omega) sB);generalize mEnter 3 true sB=sC at *;have wC:=eC.w;have lC:=eC.ln;have gC:=eC.dx.g s7g;have hD:=fun y hy=>stmtsN (TA:=TA) (L:=L) c N sC (by omega) gC.gd (by omega) y hy
   have eD:=eC.tr (k:=3+5) (ex_stmts N sC);generalize mStmts N sC=sD at *;have hE:=fun y hy=>mustC (TA:=TA) (L:=L) c sD y [101,110,100] hy
   have eE:=eD.tr (k:=3+5) (ex_must [101,110,100] sD);generalize mMust [101,110,100] sD=sE at *;have hF:=fun y hy=>mustC (TA:=TA) (L:=L) c sE y [59] hy
   have eF:=eE.tr (k:=3+5) (ex_must [59] sE);generalize mMust [59] sE=sF at *;have wF:=eF.w;have hG:=fun y hy=>leaveC (TA:=TA) (L:=L) c sF y 3 (by have:=wt_code (Int.le_refl (wt sF));omega) hy
   have eG:=eF.tr (k:=3+9) (ex_leave 3 sF);generalize mLeave 3 sF=sG at *;have wG:=eG.w;have gG:=eG.dx.g s7g;have hH:=fun y hy=>closeC (TA:=TA) (L:=L) c sG y (by have:=wt_ents (Int.le_refl (wt sG));omega) (by have:=wt_begs (Int.le_refl (wt sG));omega) gG.bg hy
   generalize mClose sG=sH at *;replace h8:=uh h8;replace hB:=uh hB;replace hC:=uh hC;replace hD:=uh hD;replace hE:=uh hE;replace hF:=uh hF;replace hG:=uh hG;replace hH:=uh hH;refine ug ?_;refine fn_intro Tryz.func127 Tryz.ntmps127 rfl rfl rfl (fun w0=>?_);refine rrs ?_;refine cl (h1) ?_;intro y hy;refine rrs ?_;refine cl (h1b y) ?_;intro _ hz;try simp only [Sx.ap1,Sx.ap2,Sx.ap3]
   cases hz;refine rr ?_;intro b1 _;refine rr ?_;refine cl (h2 y hy) ?_;intro z hz;refine rrs ?_;refine cl (h3 z hz) ?_;intro y hy;refine rrs ?_;refine cl (h4 y hy) ?_;intro z hz;refine rrs ?_;refine dr [0,1,2,3,4,5,6,7,8,9,10,11,12,13,14,15] [5,8] [0,7] ?_;refine rr ?_;refine rr ?_;intro b2 _;refine rr ?_;rintro ⟨a1,c1⟩ ⟨hc1,_⟩;refine rr ?_;refine cl (h5 { z with ea:=a1,ec:=c1 } (hz.same rfl rfl rfl)) ?_;intro y hy;refine rrs ?_;refine cl (h6 y hy) ?_;intro z hz;refine rrs ?_;refine cl (h7 z hz) ?_;intro y hy;refine rrs ?_;refine cl (h8 y hy) ?_;intro z hz;refine rrs ?_;refine cl (hB z hz) ?_;intro u hu;refine rrs ?_;refine cl (hC u hu) ?_;intro v hv;refine rrs ?_;refine cl (hD v hv) ?_;intro u hu;refine rrs ?_;refine cl (hE u hu) ?_;intro v hv;refine rrs ?_;refine cl (hF v hv) ?_;intro u hu;refine rrs ?_;refine cl (hG u hu) ?_;intro v hv;refine rrs ?_;refine cl (hH v hv) ?_;intro u hu;refine rrs ?_;exact en u hu
 | false=>
  simp only [if_neg (show ¬ (false=true) by decide)];have d7:=d6.up (k:=4);have w7:=d7.w;have l7:=d7.ln;have s6g:=g6;by_cases hv:mSees [118,97,114] s6=true
  ·simp only [if_pos hv];have h8:=fun y hy=>yesC (TA:=TA) (L:=L) c s6 y [118,97,114] hy hv
   have e8:=ex_sees hv;have l8:=tail_lt (sees_ne hv);obtain ⟨fu,hfu⟩:∃ fu,fu=s6.toks.length:=⟨_,rfl⟩
   rw [← hfu];generalize mTail s6=s8 at *;have g8:=e8.dx.g s6g;have w8:=e8.w;obtain ⟨rg,rl,rs,rw_⟩:=dx_vars fu 2 s8 g8;generalize hR:mVars fu 2 s8=R at *;obtain ⟨sz,s9⟩:=R;dsimp only at rg rl rs rw_ ⊢;have p9:=wt_pos s9;have h9:=fun y hy=>mustC (TA:=TA) (L:=L) c s9 y [59] hy
   have e9:=ex_must [59] s9;generalize mMust [59] s9=sA at *;have wA:=e9.w;have lA:=e9.ln;have sAg:=e9.dx.g rg;have hB:=fun y hy=>mustC (TA:=TA) (L:=L) c sA y [98,101,103,105,110] hy
   have eB:=(ex_must [98,101,103,105,110] sA)
   generalize mMust [98,101,103,105,110] sA=sB at *;have wB:=eB.w;have hC:=fun y hy=>enterC (TA:=TA) (L:=L) c sB y sz false (by omega) (by have:=wt_code (Int.le_refl (wt sB));omega) (by have:=wt_pats (Int.le_refl (wt sB));omega) hy
   have eC:=eB.tr (k:=sz+5) (ex_enter sz false (by omega) sB);generalize mEnter sz false sB=sC at *;have wC:=eC.w;have lC:=eC.ln;have gC:=eC.dx.g sAg;have hD:=fun y hy=>stmtsN (TA:=TA) (L:=L) c N sC (by omega) gC.gd (by omega) y hy
   have eD:=eC.tr (k:=sz+5) (ex_stmts N sC);generalize mStmts N sC=sD at *;have hE:=fun y hy=>mustC (TA:=TA) (L:=L) c sD y [101,110,100] hy
   have eE:=eD.tr (k:=sz+5) (ex_must [101,110,100] sD);generalize mMust [101,110,100] sD=sE at *;have hF:=fun y hy=>mustC (TA:=TA) (L:=L) c sE y [59] hy
   have eF:=eE.tr (k:=sz+5) (ex_must [59] sE);generalize mMust [59] sE=sF at *;have wF:=eF.w;have hG:=fun y hy=>leaveC (TA:=TA) (L:=L) c sF y sz (by have:=wt_code (Int.le_refl (wt sF));omega) hy
   have eG:=eF.tr (k:=sz+9) (ex_leave sz sF);generalize mLeave sz sF=sG at *;have wG:=eG.w;have gG:=eG.dx.g sAg;have hH:=fun y hy=>closeC (TA:=TA) (L:=L) c sG y (by have:=wt_ents (Int.le_refl (wt sG));omega) (by have:=wt_begs (Int.le_refl (wt sG));omega) gG.bg hy
   generalize mClose sG=sH at *;replace h8:=uh h8;replace h9:=uh h9;replace hB:=uh hB;replace hC:=uh hC;replace hD:=uh hD;replace hE:=uh hE;replace hF:=uh hF;replace hG:=uh hG;replace hH:=uh hH;refine ug ?_;refine fn_intro Tryz.func127 Tryz.ntmps127 rfl rfl rfl (fun w0=>?_);refine rrs ?_;refine cl (h1) ?_;intro y hy;refine rrs ?_;refine cl (h1b y) ?_;intro _ hz;try simp only [Sx.ap1,Sx.ap2,Sx.ap3]
   cases hz;refine rr ?_;intro b1 _;refine rr ?_;refine cl (h2 y hy) ?_;intro z hz;refine rrs ?_;refine cl (h3 z hz) ?_;intro y hy;refine rrs ?_;refine cl (h4 y hy) ?_;intro z hz;refine rrs ?_;refine dr [0,1,2,3,4,5,6,7,8,9,10,11,12,13,14,15] [5,8] [0,7] ?_;refine rr ?_;refine rr ?_;intro b2 _;refine rr ?_;rintro ⟨a1,c1⟩ ⟨hc1,_⟩;refine rr ?_;refine cl (h5 { z with ea:=a1,ec:=c1 } (hz.same rfl rfl rfl)) ?_;intro y hy;refine rrs ?_;refine cl (h6 y hy) ?_;intro z hz;refine rrs ?_;refine cl (h8 z hz) ?_;intro y hy;refine rrs ?_;refine lo [0,7] (fun z:Int×Bool×CS×Ad×Nat=>[(8,.int .i64 z.1),(9,.bool z.2.1)]) (fun z=>[(0,blk c (csC z.2.2.1 z.2.2.2.1) 80),(1,row z.2.2.2.1.ca z.2.2.2.1.cc 105 5 z.2.2.1.code.length (insC z.2.2.1.code)),(2,row z.2.2.2.1.pa z.2.2.2.1.pc 94 3 z.2.2.1.pats.length (paC z.2.2.1.pats)),(3,row z.2.2.2.1.na z.2.2.2.1.nc 274 5 z.2.2.1.ents.length (enC z.2.2.1.ents)),(4,row z.2.2.2.1.ba z.2.2.2.1.bc 3 1 z.2.2.1.begs.length (natC z.2.2.1.begs)),(5,row z.2.2.2.1.ea z.2.2.2.1.ec 154 2 z.2.2.1.exps.length (syC z.2.2.1.exps)),(6,row z.2.2.2.1.ia z.2.2.2.1.ic 9 1 z.2.2.1.imps.length (strC z.2.2.1.imps))]) (fun z=>OkX TA L z.2.2.1 z.2.2.2.1∧(z.2.1=true→z.2.2.1.toks.length<z.2.2.2.2∧GD z.2.2.1∧2≤z.1∧wt z.2.2.1+2*z.1≤wt s8+2*2∧mVars z.2.2.2.2 z.1 z.2.2.1=(sz,s9))∧(z.2.1=false→(z.1,z.2.2.1)=(sz,s9))) (fun z=>if z.2.1=true then z.2.2.2.2+1 else 0) (2,true,s8,y,fu) ⟨hy,fun _=>⟨by dsimp only;omega,g8,by dsimp only;omega,Int.le_refl _,hR⟩,fun h=>by cases h⟩ ?_;rintro ⟨sz2,more,q,xq,m⟩ ⟨hxq,hmore,hno⟩ K1 hK1;dsimp only at hxq hmore hno ⊢;unfold csC;cases more with
   | false=>
    have hq:=hno rfl;cases hq;by_cases he9:s9.e=0
    ·skip
     refine rr ?_;refine cl (h9 xq hxq) ?_;intro u hu;refine rrs ?_;refine cl (hB u hu) ?_;intro v hv;refine rrs ?_;refine cl (hC v hv) ?_;intro u hu;refine rrs ?_;refine cl (hD u hu) ?_;intro v hv;refine rrs ?_;refine cl (hE v hv) ?_;intro u hu;refine rrs ?_;refine cl (hF u hu) ?_;intro v hv;refine rrs ?_;refine cl (hG v hv) ?_;intro u hu;refine rrs ?_;refine cl (hH u hu) ?_;intro v hv;refine rrs ?_;exact en v hv
    ·skip
     refine rr ?_;refine cl (h9 xq hxq) ?_;intro u hu;refine rrs ?_;refine cl (hB u hu) ?_;intro v hv;refine rrs ?_;refine cl (hC v hv) ?_;intro u hu;refine rrs ?_;refine cl (hD u hu) ?_;intro v hv;refine rrs ?_;refine cl (hE v hv) ?_;intro u hu;refine rrs ?_;refine cl (hF u hu) ?_;intro v hv;refine rrs ?_;refine cl (hG v hv) ?_;intro u hu;refine rrs ?_;refine cl (hH u hu) ?_;intro v hv;refine rrs ?_;exact en v hv
   | true=>
    obtain ⟨r1,r2,r3,r4,r5⟩:=hmore rfl;have hqw:=wt_pos q;obtain ⟨m,rfl⟩:∃ m',m=m'+1:=⟨m-1,by omega⟩
    unfold mVars at r5;by_cases heq:q.e=0
    ·rw [if_pos heq] at r5;dsimp only at r5;have k1:=nameC (TA:=TA) (L:=L) c q xq hxq;have f1:=ex_name q;generalize mHere q=ql at *;generalize mName q=qa at *;obtain ⟨qn,q1⟩:=qa;dsimp only at k1 f1 r5;have fw1:=f1.w;have fg1:=f1.dx.g r2;have k2:=fun y hy=>ownsC (TA:=TA) (L:=L) c q1 y qn ql sz2 (by omega) (by have:=wt_ents (Int.le_refl (wt q1));omega) (by have:=wt_begs (Int.le_refl (wt q1));omega) (fg1.bs (by omega)) hy
     have f2:=f1.dx.tr (k:=1) (dx_owns qn ql sz2 q1);generalize mOwns qn ql sz2 q1=q2 at *;have fw2:=f2.w;have fl2:=f2.ln;by_cases h44:mSees [44] q2=true
     ·rw [if_pos h44] at r5;have k3:=fun y hy=>yesC (TA:=TA) (L:=L) c q2 y [44] hy h44
      have f3:=f2.tr (k := -99) (ex_sees h44).dx;have fl3:=tail_lt (sees_ne h44);generalize mTail q2=q3 at *;have fw3:=f3.w;have fg3:=f3.g r2;replace k1:=uh k1;replace k2:=uh k2;replace k3:=uh k3;refine rr ?_;refine cl (k1) ?_;intro u hu;refine rrs ?_;refine cl (k2 u hu) ?_;intro v hv;refine rrs ?_;refine cl (k3 v hv) ?_;intro u hu;refine rrs ?_;exact ro hK1 (sz2+1,true,q3,u,m) ⟨hu,fun _=>⟨by dsimp only;omega,fg3,by dsimp only;omega,by dsimp only;omega,r5⟩,fun h=>by cases h⟩ (hμ:=by simp)
     ·rw [if_neg h44] at r5;have k3:=fun y hy=>noC (TA:=TA) (L:=L) c q2 y [44] hy h44
      replace k1:=uh k1;replace k2:=uh k2;replace k3:=uh k3;refine rr ?_;refine cl (k1) ?_;intro u hu;refine rrs ?_;refine cl (k2 u hu) ?_;intro v hv;refine rrs ?_;refine cl (k3 v hv) ?_;intro u hu;refine rrs ?_;exact ro hK1 (sz2+1,false,q2,u,m) ⟨hu,(fun h=>by cases h),fun _=>r5⟩ (hμ:=by simp)
    ·rw [if_neg heq] at r5;cases r5;refine rr ?_;refine cl (h9 xq hxq) ?_;intro u hu;refine rrs ?_;refine cl (hB u hu) ?_;intro v hv;refine rrs ?_;refine cl (hC v hv) ?_;intro u hu;refine rrs ?_;refine cl (hD u hu) ?_;intro v hv;refine rrs ?_;refine cl (hE v hv) ?_;intro u hu;refine rrs ?_;refine cl (hF u hu) ?_;intro v hv;refine rrs ?_;refine cl (hG v hv) ?_;intro u hu;refine rrs ?_;refine cl (hH u hu) ?_;intro v hv;refine rrs ?_;exact en v hv
  ·simp only [if_neg hv];have h8:=fun y hy=>noC (TA:=TA) (L:=L) c s6 y [118,97,114] hy hv
   have hB:=fun y hy=>mustC (TA:=TA) (L:=L) c s6 y [98,101,103,105,110] hy
   have eB:=(ex_must [98,101,103,105,110] s6)
   generalize mMust [98,101,103,105,110] s6=sB at *;have wB:=eB.w;have hC:=fun y hy=>enterC (TA:=TA) (L:=L) c sB y 2 false (by omega) (by have:=wt_code (Int.le_refl (wt sB));omega) (by have:=wt_pats (Int.le_refl (wt sB));omega) hy
   have eC:=eB.tr (k:=2+5) (ex_enter 2 false (by omega) sB);generalize mEnter 2 false sB=sC at *;have wC:=eC.w;have lC:=eC.ln;have gC:=eC.dx.g s6g;have hD:=fun y hy=>stmtsN (TA:=TA) (L:=L) c N sC (by omega) gC.gd (by omega) y hy
   have eD:=eC.tr (k:=2+5) (ex_stmts N sC);generalize mStmts N sC=sD at *;have hE:=fun y hy=>mustC (TA:=TA) (L:=L) c sD y [101,110,100] hy
   have eE:=eD.tr (k:=2+5) (ex_must [101,110,100] sD);generalize mMust [101,110,100] sD=sE at *;have hF:=fun y hy=>mustC (TA:=TA) (L:=L) c sE y [59] hy
   have eF:=eE.tr (k:=2+5) (ex_must [59] sE);generalize mMust [59] sE=sF at *;have wF:=eF.w;have hG:=fun y hy=>leaveC (TA:=TA) (L:=L) c sF y 2 (by have:=wt_code (Int.le_refl (wt sF));omega) hy
   have eG:=eF.tr (k:=2+9) (ex_leave 2 sF);generalize mLeave 2 sF=sG at *;have wG:=eG.w;have gG:=eG.dx.g s6g;have hH:=fun y hy=>closeC (TA:=TA) (L:=L) c sG y (by have:=wt_ents (Int.le_refl (wt sG));omega) (by have:=wt_begs (Int.le_refl (wt sG));omega) gG.bg hy
   generalize mClose sG=sH at *;replace h8:=uh h8;replace hB:=uh hB;replace hC:=uh hC;replace hD:=uh hD;replace hE:=uh hE;replace hF:=uh hF;replace hG:=uh hG;replace hH:=uh hH;refine ug ?_;refine fn_intro Tryz.func127 Tryz.ntmps127 rfl rfl rfl (fun w0=>?_);refine rrs ?_;refine cl (h1) ?_;intro y hy;refine rrs ?_;refine cl (h1b y) ?_;intro _ hz;try simp only [Sx.ap1,Sx.ap2,Sx.ap3]
   cases hz;refine rr ?_;intro b1 _;refine rr ?_;refine cl (h2 y hy) ?_;intro z hz;refine rrs ?_;refine cl (h3 z hz) ?_;intro y hy;refine rrs ?_;refine cl (h4 y hy) ?_;intro z hz;refine rrs ?_;refine dr [0,1,2,3,4,5,6,7,8,9,10,11,12,13,14,15] [5,8] [0,7] ?_;refine rr ?_;refine rr ?_;intro b2 _;refine rr ?_;rintro ⟨a1,c1⟩ ⟨hc1,_⟩;refine rr ?_;refine cl (h5 { z with ea:=a1,ec:=c1 } (hz.same rfl rfl rfl)) ?_;intro y hy;refine rrs ?_;refine cl (h6 y hy) ?_;intro z hz;refine rrs ?_;refine cl (h8 z hz) ?_;intro y hy;refine rrs ?_;refine cl (hB y hy) ?_;intro u hu;refine rrs ?_;refine cl (hC u hu) ?_;intro v hv;refine rrs ?_;refine cl (hD v hv) ?_;intro u hu;refine rrs ?_;refine cl (hE u hu) ?_;intro v hv;refine rrs ?_;refine cl (hF v hv) ?_;intro u hu;refine rrs ?_;refine cl (hG u hu) ?_;intro v hv;refine rrs ?_;refine cl (hH v hv) ?_;intro u hu;refine rrs ?_;exact en u hu
end
section
variable {TA:Addr} {L:List (Sc.Tk×Nat)}
theorem fnc_one {α:Type} {P:Program} {f:FuncId} {args:List Value} {A B:List Chunk} {val:α→Value} {out:α→List Chunk} {x:α} (hs:FnC P f args A B val out (fun y=>y=x)):FnC (α:=Unit) P f args A B (fun _=>val x) (fun _=>out x) (fun _=>True):=
 ⟨hs.called,fun w hw=>(hs.run w hw).mono fun e w' hret=>by
  obtain ⟨y,rfl,hst,hphi⟩:=hret;cases hphi;exact ⟨(),rfl,hst,trivial⟩⟩
def boxN (c b:Nat):Chunk:=blk b [tP c] 198
def seqN (b:Nat):Value:=.func (.func 237) #[] #[.pointer (some ⟨b,0,none⟩)]
theorem namesNC (c:Nat):FnC Tryz.prog 214 [tP c] [] [] (fun (b:Nat)=>seqN b) (fun b=>[boxN c b]) (fun _=>True):=by
 unfold tP boxN;refine fn_intro Tryz.func214 Tryz.ntmps214 rfl rfl rfl (fun w0=>?_);refine rrs ?_;intro b _;refine rr ?_;exact en b trivial
theorem namesIC {σ τ:Type} (ly b c:Nat) (s:CS) (x:Ad) (hn:s.ents.length≤1000000000000) (hbl:s.begs.length≤1000000000000) (hbs:∀ x∈s.begs,x≤s.ents.length) (Hb:σ→List Chunk) (Hx:τ→List Chunk) (φ:List (ByteArray×Th)→σ→Prop) (ψ:τ→Prop) (s0:σ)
  (hy:∀ pre e rest q,mOwn s=pre++e::rest→φ pre q→YdC Tryz.prog ly [.string e.1,thG e.2] (Hb q) (fun z:σ ⊕ τ=>.bool z.isLeft) (Sum.elim Hb Hx) (Sum.elim (φ (pre++[e])) ψ))
  (hbw:∀ q,allW (Hb q)=true) (hxw:∀ t,allW (Hx t)=true) (h0:φ [] s0) :
  FnC Tryz.prog 237 [.func (.yield ly) #[] #[],.pointer (some ⟨b,0,none⟩)] ((boxN c b::cmH c s x)++Hb s0) [] (fun _:σ ⊕ τ=>.tuple #[])
   (Sum.elim (fun q=>(boxN c b::cmH c s x)++Hb q) (fun t=>(boxN c b::cmH c s x)++Hx t)) (Sum.elim (φ (mOwn s)) ψ):=by
 have hd:=fnc_one (depthC c s x);obtain ⟨ta,tc,oa,oc,pa,pc,na,nc,ba,bc,ea,ec,ia,ic⟩:=x;unfold boxN cmH csC tP at *;dsimp only at *;refine fn_intro Tryz.func237 Tryz.ntmps237 rfl rfl rfl (fun w0=>?_);try simp only [Sx.ap1,Sx.ap2,Sx.ap3]
 try simp only [List.cons_append,List.nil_append]
 unfold mOwn at *;by_cases hk0:s.begs.length=0
 ·have hz2:(s.begs.length:Int)=0:=by omega
  simp only [if_pos hk0] at *;refine rr ?_;refine ca [1,1,1,1,1,1,1] (hd) ?_;intro x hx;try simp only [Sx.ap1,Sx.ap2,Sx.ap3]
  try dsimp only
  refine rr ?_;refine w_turn (fun w hw=>hw.pick 7 rfl) ?_;exact weE (.inl s0) h0
 ·simp only [if_neg hk0] at *;have hz2:¬ ((s.begs.length:Int)=0):=by omega
  refine rr ?_;refine ca [1,1,1,1,1,1,1] (hd) ?_;intro x hx;try simp only [Sx.ap1,Sx.ap2,Sx.ap3]
  try dsimp only
  refine rr ?_;obtain ⟨b0,hb0⟩:=some_at (l:=s.begs) (k:=s.begs.length-1) (by omega);have hb0l:=hbs b0 (List.mem_of_getElem? hb0);have hgl:s.begs.getLastD 0=b0:=by rw [List.getLastD_eq_getLast?,List.getLast?_eq_getElem?,hb0];rfl
  have hnl:=natC_len s.begs;have hel:=enC_len s.ents
  have hb2:(natC s.begs)[0+((s.begs.length:Int)-1).toNat*1]? = some (.int .i64 (b0:Int)):=by
   rw [show 0+((s.begs.length:Int)-1).toNat*1=s.begs.length-1 by omega];exact natC_get hb0
  rw [hgl] at hy ⊢;refine w_use (fun w hw=>(hw.pick 4 rfl).row_some (by first | omega | decide | (simp;done) | (simp <;> omega))) ?_;rintro ⟨g1,rfl⟩;refine w_use (fun w hw=>(hw.pick 3 rfl).row_cap) fun hcap=>?_
  refine dr [0,1,2,3,4,5,6,7,8,15,9,10,11,12,13,14] [0,3,4,7,8,12] [0,4,7] ?_;refine rr ?_;have hd2:=fnc_one (depthC c s ⟨ta,tc,oa,oc,pa,pc,na,nc,some ⟨g1,0,none⟩,bc,ea,ec,ia,ic⟩);unfold cmH csC tP at hd2;refine cad [0,0,0,0,0,0,0] (hd2) ?_;intro x hx;refine rrs ?_;have e1:(none.getD (s.ents.length:Int)).toNat-((some (b0:Int)).getD 0).toNat=s.ents.length-b0:=by simp
  have e2:sliceV na nc 5 ((some (b0:Int)).getD 0).toNat (none.getD (s.ents.length:Int)).toNat = .slice (if nc=b0 then na else na.map (·.add (b0*5))) (s.ents.length-b0) (nc-b0):=by simp [sliceV]
  rw [e1,e2];generalize hsa:(if nc=b0 then na else na.map (·.add (b0*5)))=sa
  refine w_loop (α:=Nat×σ) (fun z=>[(0,.func (.yield ly) #[] #[]),(21,.slice sa (s.ents.length-b0) (nc-b0)),(22,.int .i64 ((s.ents.length-b0:Nat):Int)),(23,.int .i64 (z.1:Int))])
   (fun z=>[_,_,_,_,_,_,_,_]++Hb z.2)
   (fun z=>z.1≤s.ents.length-b0∧φ ((s.ents.drop b0).take z.1) z.2) (fun z=>s.ents.length-b0-z.1) (0,s0) ⟨rfl,rfl,rfl,rfl,trivial⟩ rfl ⟨Nat.zero_le _,h0⟩ ?_
  rintro ⟨k,q⟩ ⟨hk,hs⟩ K1 hK1;dsimp only at hk hs ⊢;simp only [List.cons_append,List.nil_append];by_cases hlt:k<s.ents.length-b0
  ·obtain ⟨e,he⟩:∃ e,(s.ents.drop b0)[k]? = some e:=⟨(s.ents.drop b0)[k]'(by simp;omega),by simp [show k<(s.ents.drop b0).length by simp;omega]⟩
   have hsplit:s.ents.drop b0=(s.ents.drop b0).take k++e::(s.ents.drop b0).drop (k+1):=by
    obtain ⟨hi,hb⟩:=List.getElem?_eq_some_iff.1 he;rw [← hb,← List.drop_eq_getElem_cons hi,List.take_append_drop]
   have hyd:=hy _ e _ q hsplit hs;refine w_use (fun w hw=>(hw.pick 3 rfl).row_some (by first | omega | decide | (simp;done) | (simp <;> omega))) ?_;rintro ⟨ge,rfl⟩;rw [if_neg (by omega)] at hsa;simp only [Option.map_some,addr_add] at hsa;subst hsa
   have hent:((enC s.ents).drop (0+b0*5+(k:Int).toNat*5)).take 5=[.string e.1,.int .i64 e.2.kind,.int .i64 e.2.pl,.int .i64 e.2.size,.bool e.2.takes]:=by
    exact enC_all (l:=s.ents) (k:=b0+k) (e:=e) (by rw [← List.getElem?_drop];exact he) _ (by omega)
   refine rr ?_;intro t4 _;refine rn ?_;refine w_regionYn 5 rfl rfl ?_;refine rr ?_;refine w_turn (fun w hw=>hw.drop) ?_;refine w_yieldT (R:=[_,_,_,_,_,_,_,_]) hyd rfl rfl rfl ?_ rfl rfl ?_
   ·intro z;cases z with
    | inl s=>exact hbw s
    | inr t=>exact hxw t
   intro z hz;cases z with
   | inl s'=>
    simp only [Sum.elim_inl,Sum.isLeft_inl] at hz ⊢;refine rr ?_;refine w_round hK1 (k+1,s') ⟨by show k+1≤s.ents.length-b0;omega,?_⟩ (by show s.ents.length-b0-(k+1)<s.ents.length-b0-k;omega) ?_ ⟨rfl,rfl,rfl,rfl,trivial⟩
    ·show φ ((s.ents.drop b0).take (k+1)) s'
     rw [List.take_add_one,he];exact hz
    ·rfl
   | inr t'=>
    simp only [Sum.elim_inr,Sum.isLeft_inr] at hz ⊢;refine rr ?_;refine w_turn (fun w hw=>hw.pick 7 rfl) ?_;exact weE (.inr t') hz
  ·obtain rfl:k=s.ents.length-b0:=by omega
   rw [List.take_of_length_le (by simp)] at hs;refine rr ?_;refine w_turn (fun w hw=>hw.pick 7 rfl) ?_;exact weE (.inl q) hs
end
section
variable {TA:Addr} {L:List (Sc.Tk×Nat)}
def thC (l:List Th):List Value:=l.flatMap thV
theorem thC_len (l:List Th):(thC l).length=l.length*4:=flat_len (cells:=thV) (sz:=4) (fun _=>rfl) l
theorem thC_all {l:List Th} {k:Nat} {e:Th} (h:l[k]? = some e) (n:Nat) (hn:n=k*4):((thC l).drop n).take 4=thV e:=by subst hn;exact flat_get (cells:=thV) (sz:=4) (fun _=>rfl) h
theorem thC_snoc (l:List Th) (e:Th):thC (l++[e])=thC l++thV e:=by simp [thC]
theorem mDefs_snoc:∀ (l:List (ByteArray×Th)) (e:ByteArray×Th) (s:CS),mDefs s (l++[e])=mDef (Sc.txt e.1) e.2 (mDefs s l)
 | [],e,s=>rfl
 | a::l,e,s=>by simp only [List.cons_append,mDefs];exact mDefs_snoc l e _
theorem mDefs_app:∀ (l m:List (ByteArray×Th)) (s:CS),mDefs s (l++m)=mDefs (mDefs s l) m
 | [],m,s=>rfl
 | a::l,m,s=>by simp only [List.cons_append,mDefs];exact mDefs_app l m _
def turnE (name:List UInt8) (t:Th) (e:ByteArray×Th):ByteArray×Th:=if e.1=Sc.bs name then (e.1,t) else e
def gathH (b4 b5 b6 b7:Nat) (name:List UInt8) (t:Th) (q:List (ByteArray×Th)×(Option Addr×Nat)×(Option Addr×Nat)):List Chunk:=[blk b4 [.string (Sc.bs name)] 9,blk b5 (thV t) 145,blk b6 [.slice q.2.1.1 q.1.length q.2.1.2] 22,row q.2.1.1 q.2.1.2 9 1 q.1.length (strC (q.1.map Prod.fst)),blk b7 [.slice q.2.2.1 q.1.length q.2.2.2] 253,row q.2.2.1 q.2.2.2 145 4 q.1.length (thC (q.1.map Prod.snd))]
theorem redefineC (c:Nat) (s:CS) (x:Ad) (name:List UInt8) (t:Th) (hg:GD s) (hw:wt s+1≤1000000000000) (hx:OkX TA L s x):FnC Tryz.prog 169 [cP c,.string (Sc.bs name),thG t] (cmH c s x) [] (fun _=>.tuple #[]) (fun y:Ad=>cmH c (mRedefine name t s) y) (fun y=>OkX TA L (mRedefine name t s) y):=by
 have hwn:=wt_ents (Int.le_refl (wt s));have hwb:=wt_begs (Int.le_refl (wt s));have hc:=fun y hy=>closeC (TA:=TA) (L:=L) c s y (by omega) (by omega) hg.bg hy
 have hi:∀ {σ τ:Type} (ly b:Nat) (Hb:σ→List Chunk) (Hx:τ→List Chunk) (φ:List (ByteArray×Th)→σ→Prop) (ψ:τ→Prop) (s0:σ) (hy:_) (hbw:_) (hxw:_) (h0:_),_:=fun {σ τ} ly b Hb Hx φ ψ s0 hy hbw hxw h0=>namesIC (σ:=σ) (τ:=τ) ly b c s x (by omega) (by omega) hg.bg Hb Hx φ ψ s0 hy hbw hxw h0
 unfold mRedefine
 have hown:(mOwn s).length≤1000000000000:=by
  unfold mOwn;split
  ·exact Nat.zero_le _
  ·rw [List.length_drop];omega
 have hnam:=namesNC c;unfold boxN at hi hnam;unfold seqN at hnam;replace hc:=uh hc;refine ug ?_;unfold cmH csC at hi;unfold tP at hi hnam;refine fn_introM Tryz.func169 Tryz.ntmps169 rfl rfl rfl (fun w0=>?_);refine rrs ?_;intro b4 _;refine rr ?_;intro b5 _;refine rr ?_;intro b6 _;refine rr ?_;intro b7 _;refine rr ?_;refine cl (hnam) ?_;intro b _;refine rrs ?_;refine hv ([blk b [.pointer (some ⟨c,5,none⟩)] 198]++cmH c s x++gathH b4 b5 b6 b7 name t ([],(none,0),(none,0))) ?_ (hp:=by unfold cmH csC gathH;(repeat (first | exact Has.nil | (apply Has.cons;focus ((repeat (first | exact pick_here | apply pick_there));done)) | apply Has.nrow | apply Has.gen0)))
 refine w_rangeFunc (σ:=List (ByteArray×Th)×(Option Addr×Nat)×(Option Addr×Nat)) (τ:=Empty) (A:=[blk b [.pointer (some ⟨c,5,none⟩)] 198]++cmH c s x++gathH b4 b5 b6 b7 name t ([],(none,0),(none,0))) [0,0,0,0,0,0,0,0,0,0,0,0,0,0]
  (fun q=>[blk b [.pointer (some ⟨c,5,none⟩)] 198]++cmH c s x++gathH b4 b5 b6 b7 name t q) (fun e=>e.elim) (fun q=>q.1=(mOwn s).map (turnE name t)) (fun e=>False) (fun e=>e.elim) ?_ rfl rfl rfl (fun _=>rfl) (fun e=>e.elim) ?_ (fun D e=>e.elim)
 ·intro ly D fn tmps hE;refine (hi (σ:=List (ByteArray×Th)×(Option Addr×Nat)×(Option Addr×Nat)) (τ:=Empty) ly b (fun q=>recC ly (recL fn tmps #[16,17] _ _ D)::gathH b4 b5 b6 b7 name t q) (fun e=>e.elim) (fun pre q=>q.1=pre.map (turnE name t)) (fun e=>False) ([],(none,0),(none,0)) ?_ (fun _=>rfl) (fun e=>e.elim) rfl).perm [1,1,1,1,1,1,1,1,0,0,0,0,0,0,0] rfl (fun z=>by cases z with | inl z=>rfl | inr e=>exact e.elim) (fun z=>by cases z with | inl z=>exact ⟨[8,0,0,0,0,0,0,0,0,0,0,0,0,0,0],[],rfl⟩ | inr e=>exact e.elim);intro pre e rest q hsplit hq;obtain ⟨l,⟨a1,c1⟩,⟨a2,c2⟩⟩:=q;dsimp only at hq
  have hll:l.length≤1000000000000:=by
   rw [hq,List.length_map];have:=congrArg List.length hsplit;rw [List.length_append] at this;omega
  refine yd_go (ps:=[16,17]) (E0:=[(4,.pointer (some ⟨b4,0,none⟩)),(5,.pointer (some ⟨b5,0,none⟩)),(6,.pointer (some ⟨b6,0,none⟩)),(7,.pointer (some ⟨b7,0,none⟩))]) hE ⟨rfl,rfl,rfl,rfl,trivial⟩ rfl rfl (fun w0=>?_);simp only [List.zip_cons_cons,List.zip_nil_right,envPut];unfold gathH thG thV;dsimp only;refine rr ?_;intro b9 _;refine rr ?_;refine w_turn (fun w hw=>hw.pick 1 rfl) ?_;refine w_begin rfl rfl ?_;have hfin:(pre++[e]).map (turnE name t)=l++[turnE name t e]:=by rw [List.map_append,hq];rfl
  by_cases hen:e.1=Sc.bs name
  ·have hte:turnE name t e=(e.1,t):=by unfold turnE;rw [if_pos hen]
   refine rr ?_;refine dr [0,1,4,5,99] [0,4,5] [0,4,6] ?_;refine rr ?_;refine tw (i:=2) (j:=6) [99] [2,3,7,8,9] ?_ ?_
   rotate_left
   ·skip
    refine rr ?_;intro b11 _;refine rr ?_;intro b10 _;refine rr ?_;rintro ⟨a3,c3⟩ ⟨hc3,_⟩;refine rr ?_;rintro ⟨a4,c4⟩ ⟨hc4,_⟩;refine rr ?_;rw [show l.length+1=(l++[turnE name t e]).length by simp];rw [show thC (List.map Prod.snd l)++[Value.int IntKind.i64 (t).kind,Value.int IntKind.i64 (t).pl,Value.int IntKind.i64 (t).size,Value.bool (t).takes]=thC (List.map Prod.snd (l++[turnE name t e])) by rw [hte,List.map_append];exact (thC_snoc _ _).symm];rw [show strC (List.map Prod.fst l)++[Value.string e.fst]=strC (List.map Prod.fst (l++[turnE name t e])) by rw [hte,List.map_append];simp [strC]];exact w_rgo (Sum.inl (l++[turnE name t e],(a3,c3),(a4,c4))) [0,5,5,1,2,0,0] (i:=5) rfl rfl rfl hfin.symm
   ·skip
    refine rr ?_;intro b10 _;refine rr ?_;refine tw (i:=3) (j:=6) [6,7,8,9] [3,7,8,9] ?_ ?_
    ·skip
     refine rr ?_;rintro ⟨a3,c3⟩ ⟨hc3,_⟩;refine rr ?_;intro b11 _;refine rr ?_;rintro ⟨a4,c4⟩ ⟨hc4,_⟩;refine rr ?_;rw [show l.length+1=(l++[turnE name t e]).length by simp];rw [show thC (List.map Prod.snd l)++[Value.int IntKind.i64 (t).kind,Value.int IntKind.i64 (t).pl,Value.int IntKind.i64 (t).size,Value.bool (t).takes]=thC (List.map Prod.snd (l++[turnE name t e])) by rw [hte,List.map_append];exact (thC_snoc _ _).symm];rw [show strC (List.map Prod.fst l)++[Value.string e.fst]=strC (List.map Prod.fst (l++[turnE name t e])) by rw [hte,List.map_append];simp [strC]];exact w_rgo (Sum.inl (l++[turnE name t e],(a3,c3),(a4,c4))) [0,5,5,1,2,0,0] (i:=5) rfl rfl rfl hfin.symm
    ·skip
     refine rr ?_;intro b11 _;refine rr ?_;rintro ⟨a3,c3⟩ ⟨hc3,_⟩;refine rr ?_;rintro ⟨a4,c4⟩ ⟨hc4,_⟩;refine rr ?_;rw [show l.length+1=(l++[turnE name t e]).length by simp];rw [show thC (List.map Prod.snd l)++[Value.int IntKind.i64 (t).kind,Value.int IntKind.i64 (t).pl,Value.int IntKind.i64 (t).size,Value.bool (t).takes]=thC (List.map Prod.snd (l++[turnE name t e])) by rw [hte,List.map_append];exact (thC_snoc _ _).symm];rw [show strC (List.map Prod.fst l)++[Value.string e.fst]=strC (List.map Prod.fst (l++[turnE name t e])) by rw [hte,List.map_append];simp [strC]];exact w_rgo (Sum.inl (l++[turnE name t e],(a3,c3),(a4,c4))) [0,5,5,1,2,0,0] (i:=5) rfl rfl rfl hfin.symm
  ·have hte:turnE name t e=e:=by unfold turnE;rw [if_neg hen]
   refine rr ?_;refine dr [0,1,4,5,99] [0,4,5] [1,4,6] ?_;refine rr ?_;refine tw (i:=2) (j:=6) [99] [2,3,7,8,9] ?_ ?_
   rotate_left
   ·skip
    refine rr ?_;intro b11 _;refine rr ?_;intro b10 _;refine rr ?_;rintro ⟨a3,c3⟩ ⟨hc3,_⟩;refine rr ?_;rintro ⟨a4,c4⟩ ⟨hc4,_⟩;refine rr ?_;rw [show l.length+1=(l++[turnE name t e]).length by simp];rw [show thC (List.map Prod.snd l)++[Value.int IntKind.i64 (e.2).kind,Value.int IntKind.i64 (e.2).pl,Value.int IntKind.i64 (e.2).size,Value.bool (e.2).takes]=thC (List.map Prod.snd (l++[turnE name t e])) by rw [hte,List.map_append];exact (thC_snoc _ _).symm];rw [show strC (List.map Prod.fst l)++[Value.string e.fst]=strC (List.map Prod.fst (l++[turnE name t e])) by rw [hte,List.map_append];simp [strC]];exact w_rgo (Sum.inl (l++[turnE name t e],(a3,c3),(a4,c4))) [0,5,5,1,2,0,0] (i:=4) rfl rfl rfl hfin.symm
   ·skip
    refine rr ?_;intro b10 _;refine rr ?_;refine tw (i:=3) (j:=6) [6,7,8,9] [3,7,8,9] ?_ ?_
    ·skip
     refine rr ?_;rintro ⟨a3,c3⟩ ⟨hc3,_⟩;refine rr ?_;intro b11 _;refine rr ?_;rintro ⟨a4,c4⟩ ⟨hc4,_⟩;refine rr ?_;rw [show l.length+1=(l++[turnE name t e]).length by simp];rw [show thC (List.map Prod.snd l)++[Value.int IntKind.i64 (e.2).kind,Value.int IntKind.i64 (e.2).pl,Value.int IntKind.i64 (e.2).size,Value.bool (e.2).takes]=thC (List.map Prod.snd (l++[turnE name t e])) by rw [hte,List.map_append];exact (thC_snoc _ _).symm];rw [show strC (List.map Prod.fst l)++[Value.string e.fst]=strC (List.map Prod.fst (l++[turnE name t e])) by rw [hte,List.map_append];simp [strC]];exact w_rgo (Sum.inl (l++[turnE name t e],(a3,c3),(a4,c4))) [0,5,5,1,2,0,0] (i:=4) rfl rfl rfl hfin.symm
    ·skip
     refine rr ?_;intro b11 _;refine rr ?_;rintro ⟨a3,c3⟩ ⟨hc3,_⟩;refine rr ?_;rintro ⟨a4,c4⟩ ⟨hc4,_⟩;refine rr ?_;rw [show l.length+1=(l++[turnE name t e]).length by simp];rw [show thC (List.map Prod.snd l)++[Value.int IntKind.i64 (e.2).kind,Value.int IntKind.i64 (e.2).pl,Value.int IntKind.i64 (e.2).size,Value.bool (e.2).takes]=thC (List.map Prod.snd (l++[turnE name t e])) by rw [hte,List.map_append];exact (thC_snoc _ _).symm];rw [show strC (List.map Prod.fst l)++[Value.string e.fst]=strC (List.map Prod.fst (l++[turnE name t e])) by rw [hte,List.map_append];simp [strC]];exact w_rgo (Sum.inl (l++[turnE name t e],(a3,c3),(a4,c4))) [0,5,5,1,2,0,0] (i:=4) rfl rfl rfl hfin.symm
 ·intro D q hq;obtain ⟨l,⟨a1,c1⟩,⟨a2,c2⟩⟩:=q;dsimp only at hq;have hll:l.length≤1000000000000:=by rw [hq,List.length_map];exact hown
  have hl1:=thC_len (l.map Prod.snd);have hl2:=strC_len (l.map Prod.fst);rw [List.length_map] at hl1 hl2;have g1:=dx_close s;have ho:=fun y hy=>openC (TA:=TA) (L:=L) c (mClose s) y (by have:=wt_begs (Int.le_refl (wt (mClose s)));have:=g1.w;omega) hy
  have g2:=g1.tr (k:=1) (dx_open _);have hlw:=wt_close s;have hlw2:=(dx_open (mClose s)).w;have hll2:l.length=(mOwn s).length:=by rw [hq,List.length_map]
  unfold gathH;dsimp only
  have hs1:∀ k,mDefs (mOpen (mClose s)) ((mOwn s).map (turnE name t))=mDefs (mDefs (mOpen (mClose s)) (l.take k)) (l.drop k):=fun k=>by
   rw [← mDefs_app,List.take_append_drop,hq]
  have hdf:∀ k:Nat,Dx (k:Int) (mOpen (mClose s)) (mDefs (mOpen (mClose s)) (l.take k)):=fun k=>(dx_defs (l.take k) _).up (by rw [List.length_take];omega)
  generalize hT:mDefs (mOpen (mClose s)) ((mOwn s).map (turnE name t))=ST at hs1;have hres:(mDefs (mOpen (mClose s)) ((mOwn s).map fun e=>if e.1=Sc.bs name then (e.1,t) else e))=ST:=hT;rw [hres];replace ho:=uh ho;refine rr ?_;refine cl (hc x hx) ?_;intro y hy;refine rrs ?_;refine cl (ho y hy) ?_;intro z hz;refine rrs ?_;refine lo [0,7,38,39] (fun z:Nat×CS×Ad=>[(40,.int .i64 (z.1:Int))]) (fun z=>[(0,blk c (csC z.2.1 z.2.2) 80),(1,row z.2.2.ca z.2.2.cc 105 5 z.2.1.code.length (insC z.2.1.code)),(2,row z.2.2.pa z.2.2.pc 94 3 z.2.1.pats.length (paC z.2.1.pats)),(3,row z.2.2.na z.2.2.nc 274 5 z.2.1.ents.length (enC z.2.1.ents)),(4,row z.2.2.ba z.2.2.bc 3 1 z.2.1.begs.length (natC z.2.1.begs)),(5,row z.2.2.ea z.2.2.ec 154 2 z.2.1.exps.length (syC z.2.1.exps)),(6,row z.2.2.ia z.2.2.ic 9 1 z.2.1.imps.length (strC z.2.1.imps))]) (fun z=>OkX TA L z.2.1 z.2.2∧z.1≤l.length∧z.2.1=mDefs (mOpen (mClose s)) (l.take z.1)) (fun z=>l.length-z.1) (0,mOpen (mClose s),z) ⟨hz,Nat.zero_le _,rfl⟩ ?_;rintro ⟨k,q,xq⟩ ⟨hxq,hk,hqe⟩ K1 hK1;dsimp only at hxq hk hqe ⊢;unfold csC;by_cases hlt:k<l.length
  ·obtain ⟨e,he⟩:=some_at hlt
   have hstr:(strC (l.map Prod.fst))[0+(k:Int).toNat*1]? = some (.string e.1):=by
    rw [show 0+(k:Int).toNat*1=k by omega];simp [strC,he]
   have hth:((thC (l.map Prod.snd)).drop (0+(k:Int).toNat*4)).take 4=thV e.2:=thC_all (k:=k) (by simp [he]) _ (by omega);unfold thV at hth;have dk:=hdf k;rw [← hqe] at dk;have hd1:=fun y hy=>defineC (TA:=TA) (L:=L) c q y (Sc.txt e.1) e.2 (by have:=wt_ents (Int.le_refl (wt q));have:=dk.w;omega) (by have:=wt_begs (Int.le_refl (wt q));have:=dk.w;omega) (fun b hb=>by have:=(dk.g (g2.g hg)).bg b hb;have:=wt_ents (Int.le_refl (wt q));have:=dk.w;omega) hy
   have hnx:mDef (Sc.txt e.1) e.2 q=mDefs (mOpen (mClose s)) (l.take (k+1)):=by
    rw [hqe,← mDefs_snoc,List.take_add_one,he];rfl
   rw [Sc.bs_txt] at hd1;generalize mDef (Sc.txt e.1) e.2 q=q2 at *;replace hd1:=uh hd1;refine w_use (fun w hw=>(hw.pick 11 rfl).row_some (by first | omega | decide | (simp;done) | (simp <;> omega))) ?_;rintro ⟨g11,rfl⟩;refine w_use (fun w hw=>(hw.pick 13 rfl).row_some (by first | omega | decide | (simp;done) | (simp <;> omega))) ?_;rintro ⟨g13,rfl⟩;refine rr ?_;refine dr [0,1,2,3,4,5,6,7,8] [4,7] [13,12] ?_;refine rr ?_;refine cle (hd1 xq hxq) ?_;intro u hu;refine rrs ?_;exact ro hK1 (k+1,q2,u) ⟨hu,by dsimp only;omega,hnx⟩
  ·obtain rfl:k=l.length:=by omega
   have hqS:q=ST:=by rw [hqe,List.take_length,← hT,← hq]
   rw [← hqS];refine rr ?_;exact weM1 xq [0,0,0,0,0,0,0] hxq
end
end Go.Proofs.YtkolmklfgbimoaaGreatDoor.Cm
namespace Go.Proofs.YtkolmklfgbimoaaGreatDoor.Cm
open Go
section
structure Pm where
 mk ::
 (f:Int→Int) (nn:∀ x,0≤x→0≤f x)
section
variable (d:Pm)
variable {d}
def mPay (n:Int) (q:CS):CS:=mMust [59] { q with data:=q.data+n }
theorem variable_eq (s:CS):mVariable s =
  let a:=mName s
  let s1:=mDefine a.1 (mHere s) ⟨0,a.2.data,1,false⟩ a.2
  if mSees [91] s1 then
   let b:=mNumber (mTail s1)
   if b.2.e≠0 then b.2
   else if b.1<1∨b.1>2000 then mStop 3 (mHere (mTail s1)) b.2
   else if b.2.data+b.1>32000 then mStop 4 (mHere (mTail s1)) b.2
   else mPay b.1 (mMust [93] (mRedefine a.1 ⟨1,a.2.data,b.1,false⟩ b.2))
  else mPay 1 (if s1.e=0∧s1.data=32000 then mStop 4 (mHere s) s1 else s1):=rfl
end
end
theorem def_data (n:List UInt8) (t:Th) (s:CS):(mDef n t s).data=s.data:=by unfold mDef;split <;> rfl
theorem define_data (n:List UInt8) (pl:Int) (t:Th) (s:CS):(mDefine n pl t s).data=s.data:=by
 unfold mDefine;split
 ·split
  ·exact def_data _ _ _
  ·rfl
 ·rfl
theorem defs_data:∀ (l:List (ByteArray×Th)) (s:CS),(mDefs s l).data=s.data
 | [],s=>rfl
 | e::l,s=>by unfold mDefs;rw [defs_data l,def_data]
theorem close_data (s:CS):(mClose s).data=s.data:=by unfold mClose;split <;> rfl
theorem redefine_data (n:List UInt8) (t:Th) (s:CS):(mRedefine n t s).data=s.data:=by
 unfold mRedefine;rw [defs_data];exact close_data s
theorem must_data (w:List UInt8) (s:CS):(mMust w s).data=s.data:=(ex_must w s).da
theorem must_e {w:List UInt8} {s:CS} (h:(mMust w s).e=0):s.e=0∧mSees w s=true:=by
 unfold mMust at h;by_cases hs:mSees w s=true
 ·rw [if_pos hs] at h;exact ⟨h,hs⟩
 ·rw [if_neg hs] at h;exact absurd h (stop_e _ _ _ (by decide))
theorem variable_data {s:CS} (hd:0≤s.data∧s.data≤32000) (h:(mVariable s).e=0):0≤(mVariable s).data∧(mVariable s).data≤32000:=by
 rw [variable_eq] at h ⊢;dsimp only at h ⊢;have d1:(mName s).2.data=s.data:=(ex_name s).da;have d2:=define_data (mName s).1 (mHere s) ⟨0,(mName s).2.data,1,false⟩ (mName s).2;generalize mDefine (mName s).1 (mHere s) ⟨0,(mName s).2.data,1,false⟩ (mName s).2=s1 at *;split at h
 ·rename_i hs;rw [if_pos hs];have d3:(mNumber (mTail s1)).2.data=s1.data:=(ex_number _).da;split at h
  ·rename_i he;exact absurd h he
  ·rename_i he;rw [if_neg he];split at h
   ·exact absurd h (stop_e _ _ _ (by decide))
   ·rename_i hr;rw [if_neg hr];split at h
    ·exact absurd h (stop_e _ _ _ (by decide))
    ·rename_i hl;rw [if_neg hl];unfold mPay;rw [must_data];dsimp only;rw [must_data,redefine_data];omega
 ·rename_i hs;rw [if_neg hs];unfold mPay at h ⊢;have h2:=(must_e h).1;rw [must_data];dsimp only at h2 ⊢;split at h2
  ·exact absurd h2 (stop_e _ _ _ (by decide))
  ·rename_i hc;rw [if_neg hc];have:s1.data≠32000:=fun h=>hc ⟨h2,h⟩
   omega
theorem imported_data (s:CS):(mImported s).data=s.data:=by
 unfold mImported;dsimp only;rw [must_data];dsimp only;rw [define_data,(ex_param _).da,(ex_fresh _ _ _ _).da,(ex_name _).da]
theorem owns_data (n:List UInt8) (pl size:Int) (s:CS):(mOwns n pl size s).data=s.data:=by
 unfold mOwns;dsimp only;split
 ·exact define_data _ _ _ _
 ·exact define_data _ _ _ _
theorem vars_data:∀ (m:Nat) (size:Int) (s:CS),(mVars m size s).2.data=s.data
 | 0,size,s=>rfl
 | m+1,size,s=>by
  unfold mVars;dsimp only;split
  ·split
   ·rw [vars_data m];exact (owns_data _ _ _ _).trans (ex_name _).da
   ·exact (owns_data _ _ _ _).trans (ex_name _).da
  ·rfl
theorem enters_data (takes:Bool):∀ (m:Nat) (n:Int) (s:CS),(mEnters takes m n s).data=s.data
 | 0,n,s=>rfl
 | m+1,n,s=>by unfold mEnters;rw [enters_data takes m];rfl
theorem enter_data (size:Int) (takes:Bool) (s:CS):(mEnter size takes s).data=s.data:=by unfold mEnter;rw [enters_data];rfl
theorem routine_data (N:Nat) (s:CS):(mRoutine N s).data=s.data:=by
 unfold mRoutine;dsimp only;have e3:=((ex_name s).tr (k:=0) (ex_fresh (mName s).1 (mHere s) (((mName s).2.exps.length:Nat):Int) (mName s).2)).tr (k:=0) (ex_param _);generalize mParam (mFresh (mName s).1 (mHere s) (((mName s).2.exps.length:Nat):Int) (mName s).2)=p at *;obtain ⟨⟨pn,pp,pt⟩,s3⟩:=p;have d3:=e3.da;dsimp only at *
 have d6:(mOpen (mMust [59] { mDefine (mName s).1 (mHere s) ⟨3,((mName s).2.code.length:Int),0,pt⟩ s3 with exps:=(mDefine (mName s).1 (mHere s) ⟨3,((mName s).2.code.length:Int),0,pt⟩ s3).exps++[⟨Sc.bs (mName s).1,((mName s).2.code.length:Int)⟩] })).data=s.data:=by
  show (mMust [59] _).data=_
  rw [must_data];exact (define_data _ _ _ _).trans d3
 generalize mOpen (mMust [59] { mDefine (mName s).1 (mHere s) ⟨3,((mName s).2.code.length:Int),0,pt⟩ s3 with exps:=(mDefine (mName s).1 (mHere s) ⟨3,((mName s).2.code.length:Int),0,pt⟩ s3).exps++[⟨Sc.bs (mName s).1,((mName s).2.code.length:Int)⟩] })=s6 at *
 have hend:∀ (sz:Int) (q:CS),(mClose (mLeave sz (mMust [59] (mMust [101,110,100] (mStmts N (mEnter sz pt (mMust [98,101,103,105,110] q))))))).data=q.data:=by
  intro sz q;rw [close_data,(ex_leave _ _).da,must_data,must_data,(ex_stmts _ _).da,enter_data,must_data]
 cases pt with
 | true=>
  simp only [if_true];split
  ·rw [hend,must_data,vars_data];exact (owns_data _ _ _ _).trans d6
  ·rw [hend];exact (owns_data _ _ _ _).trans d6
 | false=>
  simp only [if_neg (show ¬ (false=true) by decide)];split
  ·rw [hend,must_data,vars_data];exact d6
  ·rw [hend];exact d6
end Go.Proofs.YtkolmklfgbimoaaGreatDoor.Cm

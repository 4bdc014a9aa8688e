/- Texts of the proof, in their order: Dmi, Dmj, Dmk, Dml, Dmm, Dmn. -/
import Derived.Test.YtkolmklfgbimoaaGreatDoorM11
import Derived.Test.YtkolmklfgbimoaaGreatDoorM5
set_option linter.unusedVariables false
set_option linter.unusedSimpArgs false
set_option maxHeartbeats 16000000
set_option maxRecDepth 100000
namespace Go.Proofs.YtkolmklfgbimoaaGreatDoor.Cm
open Go
theorem back_far {i:In} (h:isFar i=true) (tg:Int) (s:CS):mBack i tg s=mMark { i with imm:=tg } 0 0 s:=by
 unfold mBack mJump;rw [if_pos h];unfold mAim
 have h1:aimL (mMark i 0 0 s).code (s.code.length:Int) tg=some (s.code++[{ i with imm:=tg }]):=by
  show aimL (s.code++[i]) (s.code.length:Int) tg=_
  unfold aimL;rw [if_neg (by rw [List.length_append,List.length_singleton];omega),Int.toNat_natCast,List.getD_eq_getElem?_getD,List.getElem?_append_right (Nat.le_refl _),Nat.sub_self]
  show (match aimI i _ _ with
   | some j=>_
   | none=>none)=_
  unfold aimI;rw [if_pos h];dsimp only;rw [List.set_append_right _ _ (Nat.le_refl _),Nat.sub_self];rfl
 rw [h1];rfl
theorem land_at {s:CS} {p:Nat} {i j:In} (h:s.code[p]? = some i) (ha:aimI i (p:Int) (s.code.length:Int)=some j):mLand (p:Int) s={ s with code:=s.code.set p j }:=by
 have hp:=(List.getElem?_eq_some_iff.1 h).1;unfold mLand mAim
 have h1:aimL s.code (p:Int) (s.code.length:Int)=some (s.code.set p j):=by
  unfold aimL;rw [if_neg (by omega),Int.toNat_natCast,List.getD_eq_getElem?_getD,h,Option.getD_some,ha]
 rw [h1]
theorem land_e (pl:Int) (s:CS):(mLand pl s).e=s.e∧(mLand pl s).taken=s.taken∧(mLand pl s).toks=s.toks:=by
 unfold mLand mAim;split <;> exact ⟨rfl,rfl,rfl⟩
theorem TyS.weaken {S:Nat} {s:CS} {RL:List Rl} {H H2:List Nat} (h:TyS S s RL H) (hh:∀ p∈H,p∈H2):TyS S s RL H2:=
 ⟨h.len,fun p i hp=>(h.ok p i hp).imp (hh p) id,h.so,h.pb,h.ent,h.xp⟩
theorem TyS.fix {S:Nat} {s:CS} {RL:List Rl} {p:Nat} {H:List Nat} (h:TyS S s RL (p::H)) {j:In} {r:Rl} (hp:p<s.code.length) (hr:RL[p]? = some r) (hj:OkO s.data (lookR RL) s.pats (p:Int) r j):TyS S { s with code:=s.code.set p j } RL H:=by
 refine ⟨by show RL.length=(s.code.set p j).length+1;rw [List.length_set];exact h.len,fun q i hq=>?_,h.so,fun q hq=>?_,h.ent,h.xp⟩
 ·have hq:(s.code.set p j)[q]? = some i:=hq;by_cases he:q=p
  ·subst he;rw [List.getElem?_set_self hp] at hq;cases hq;exact .inr ⟨r,hr,hj⟩
  ·rw [List.getElem?_set_ne (fun h=>he h.symm)] at hq;rcases h.ok q i hq with h1 | h1
   ·rcases List.mem_cons.1 h1 with h2 | h2
    ·exact absurd h2 he
    ·exact .inl h2
   ·exact .inr h1
 ·show 0≤q.pl∧q.pl<((s.code.set p j).length:Int)
  rw [List.length_set];exact h.pb q hq
theorem TyS.hole {S:Nat} {s:CS} {RL:List Rl} {H:List Nat} (h:TyS S s RL H) {i:In} {r':Rl} {r:Rl} (hl:RL[s.code.length]? = some r):TyS S (mPut i s) (RL++[r']) (s.code.length::H):=by
 have:=(h.weaken (H2:=s.code.length::H) (fun p hp=>List.mem_cons_of_mem _ hp)).put (i:=i) (r':=r') (ps:=[]) hl (fun q hq=>by cases hq) (by simp) (.inl List.mem_cons_self);rw [List.append_nil] at this;exact this
theorem TyS.holeM {S:Nat} {s:CS} {RL:List Rl} {H:List Nat} (h:TyS S s RL H) {i:In} {r':Rl} {r:Rl} (hl:RL[s.code.length]? = some r):TyS S (mMark i 0 0 s) (RL++[r']) (s.code.length::H):=
 (h.weaken (H2:=s.code.length::H) (fun p hp=>List.mem_cons_of_mem _ hp)).put (i:=i) (r':=r') (ps:=[⟨(s.code.length:Int),0,0⟩]) hl (fun q hq=>by rw [List.mem_singleton.1 hq]) (by simp) (.inl List.mem_cons_self)
theorem pre_get {l m:List In} (h:l <+: m) {p:Nat} {i:In} (hp:l[p]? = some i):m[p]? = some i:=by
 obtain ⟨t,rfl⟩:=h;rw [List.getElem?_append_left (List.getElem?_eq_some_iff.1 hp).1,hp]
theorem preR_get {l m:List Rl} (h:l <+: m) {p:Nat} {i:Rl} (hp:l[p]? = some i):m[p]? = some i:=by
 obtain ⟨t,rfl⟩:=h;rw [List.getElem?_append_left (List.getElem?_eq_some_iff.1 hp).1,hp]
theorem put_last (s:CS) (i:In):(s.code++[i])[s.code.length]? = some i:=by rw [List.getElem?_append_right (Nat.le_refl _),Nat.sub_self];rfl
theorem pre_set {l m:List In} {i j:In} (h:l++[i] <+: m):l <+: m.set l.length j:=by
 obtain ⟨t,rfl⟩:=h;rw [List.append_assoc,List.set_append_right _ _ (Nat.le_refl _)];exact List.prefix_append _ _
theorem em_if {S:Nat} {s s2:CS} {a:Int} (ha:numR a) (hm:Em S (mPut ⟨15,a,0,0,0⟩ s) s2 (.bo S 0) (.bo S 0)):Em S s (mLand (s.code.length:Int) s2) (.bo S 0) (.bo S 0):=by
 obtain ⟨⟨hc,ps,hps,hpl⟩,he⟩:=hm;have hget:s2.code[s.code.length]? = some ⟨15,a,0,0,0⟩:=pre_get hc (put_last s _);have hp:=(List.getElem?_eq_some_iff.1 hget).1;have hland:=land_at (s:=s2) (p:=s.code.length) (j:=⟨15,a,0,0,(s2.code.length:Int)-(s.code.length:Int)-1⟩) hget rfl;rw [hland];have hps:s2.pats=s.pats++ps:=hps
 have hpl:∀ q∈ps,(s.code.length:Int)+1≤q.pl:=fun q hq=>by
  have h1:(((s.code++[(⟨15,a,0,0,0⟩:In)]).length:Nat):Int)≤q.pl:=hpl q hq;rw [List.length_append,List.length_singleton] at h1;omega
 refine ⟨⟨pre_set hc,ps,hps,fun q hq=>by have:=hpl q hq;omega⟩,fun RL H hT hl=>?_⟩
 obtain ⟨R2,p2,t2,l2⟩:=he _ (s.code.length::H) (hT.hole (r':=.bo S 0) hl) (by
  show (RL++[Rl.bo S 0])[(s.code++[(⟨15,a,0,0,0⟩:In)]).length]? = _
  rw [List.length_append,List.length_singleton];exact last_of hT.len _)
 refine ⟨R2,(List.prefix_append _ _).trans p2,t2.fix hp (preR_get ((List.prefix_append _ _).trans p2) hl) ?_,by rw [List.length_set];exact l2⟩;refine .pl (fun q hq he=>?_) bo_top bo_en1 (show (15:Int)≠17 by decide) (show (15:Int)≠18 by decide) (.beq ha ?_ ?_)
 ·rw [hps] at hq;rcases List.mem_append.1 hq with hq | hq
  ·have:=(hT.pb q hq).2;omega
  ·have:=hpl q hq;omega
 ·rw [show (s.code.length:Int)+1=((s.code.length+1:Nat):Int) by omega,lookR_nat];exact preR_get p2 (last_of hT.len _)
 ·rw [show (s.code.length:Int)+1+((s2.code.length:Int)-(s.code.length:Int)-1)=((s2.code.length:Nat):Int) by omega,lookR_nat];exact l2
theorem em_else {S:Nat} {s s3 s4:CS} {a:Int} (ha:numR a) (hm:Em S (mPut ⟨15,a,0,0,0⟩ s) s3 (.bo S 0) (.bo S 0)) (hn:Em S (mLand (s.code.length:Int) (mMark ⟨17,0,0,0,0⟩ 0 0 s3)) s4 (.bo S 0) (.bo S 0)):Em S s (mLand (s3.code.length:Int) s4) (.bo S 0) (.bo S 0):=by
 obtain ⟨⟨hc,ps,hps,hpl⟩,he⟩:=hm;have hget:s3.code[s.code.length]? = some ⟨15,a,0,0,0⟩:=pre_get hc (put_last s _);have hp:=(List.getElem?_eq_some_iff.1 hget).1;have hps:s3.pats=s.pats++ps:=hps
 have hpl:∀ q∈ps,(s.code.length:Int)+1≤q.pl:=fun q hq=>by
  have h1:(((s.code++[(⟨15,a,0,0,0⟩:In)]).length:Nat):Int)≤q.pl:=hpl q hq;rw [List.length_append,List.length_singleton] at h1;omega
 have hget2:(mMark ⟨17,0,0,0,0⟩ 0 0 s3).code[s.code.length]? = some ⟨15,a,0,0,0⟩:=pre_get (List.prefix_append _ _) hget
 have hlen2:(mMark ⟨17,0,0,0,0⟩ 0 0 s3).code.length=s3.code.length+1:=by
  show (s3.code++[(⟨17,0,0,0,0⟩:In)]).length=_
  rw [List.length_append];rfl
 have hland:=land_at (s:=mMark ⟨17,0,0,0,0⟩ 0 0 s3) (p:=s.code.length) (j:=⟨15,a,0,0,((s3.code.length+1:Nat):Int)-(s.code.length:Int)-1⟩) hget2 (by rw [hlen2];rfl);rw [hland] at hn;obtain ⟨⟨nc,qs,nps,npl⟩,ne⟩:=hn;have hmk:(mMark ⟨17,0,0,0,0⟩ 0 0 s3).code=s3.code++[⟨17,0,0,0,0⟩]:=rfl;have nc:(s3.code++[(⟨17,0,0,0,0⟩:In)]).set s.code.length ⟨15,a,0,0,((s3.code.length+1:Nat):Int)-(s.code.length:Int)-1⟩ <+: s4.code:=nc;have nps:s4.pats=(s3.pats++[⟨(s3.code.length:Int),0,0⟩])++qs:=nps
 have npl:∀ q∈qs,(s3.code.length:Int)+1≤q.pl:=fun q hq=>by
  have h1:((((s3.code++[(⟨17,0,0,0,0⟩:In)]).set s.code.length ⟨15,a,0,0,((s3.code.length+1:Nat):Int)-(s.code.length:Int)-1⟩).length:Nat):Int)≤q.pl:=npl q hq;rw [List.length_set,List.length_append,List.length_singleton] at h1;omega
 have hget4:s4.code[s3.code.length]? = some ⟨17,0,0,0,0⟩:=pre_get nc (by rw [List.getElem?_set_ne (by omega)];exact put_last s3 _);have hp4:=(List.getElem?_eq_some_iff.1 hget4).1;have hland4:=land_at (s:=s4) (p:=s3.code.length) (j:=⟨17,0,0,0,(s4.code.length:Int)⟩) hget4 rfl;rw [hland4];have hsp:s.code <+: (s3.code++[(⟨17,0,0,0,0⟩:In)]).set s.code.length ⟨15,a,0,0,((s3.code.length+1:Nat):Int)-(s.code.length:Int)-1⟩:=pre_set (hc.trans (List.prefix_append _ _));refine ⟨⟨?_,ps++[⟨(s3.code.length:Int),0,0⟩]++qs,?_,fun q hq=>?_⟩,fun RL H hT hl=>?_⟩
 ·obtain ⟨t,ht⟩:=hsp.trans nc;rw [← ht,List.set_append_right _ _ (by omega)];exact List.prefix_append _ _
 ·show s4.pats=_
  rw [nps,hps];simp
 ·rcases List.mem_append.1 hq with hq | hq
  ·rcases List.mem_append.1 hq with hq | hq
   ·have:=hpl q hq;omega
   ·rw [List.mem_singleton.1 hq];have:=hc.length_le;show (s.code.length:Int)≤(s3.code.length:Int)
    omega
  ·have:=npl q hq;omega
 ·obtain ⟨R3,p3,t3,l3⟩:=he _ (s.code.length::H) (hT.hole (r':=.bo S 0) hl) (by
   show (RL++[Rl.bo S 0])[(s.code++[(⟨15,a,0,0,0⟩:In)]).length]? = _
   rw [List.length_append,List.length_singleton];exact last_of hT.len _)
  have t3':=t3.holeM (i:=⟨17,0,0,0,0⟩) (r':=.bo S 0) l3;have hRL:RL <+: R3:=(List.prefix_append _ _).trans p3
  have t3f:=(t3'.weaken (H2:=s.code.length::s3.code.length::H) (fun q hq=>by
   simp only [List.mem_cons] at hq ⊢;rcases hq with h | h | h
   ·exact .inr (.inl h)
   ·exact .inl h
   ·exact .inr (.inr h))).fix (p:=s.code.length) (j:=⟨15,a,0,0,((s3.code.length+1:Nat):Int)-(s.code.length:Int)-1⟩) (r:=.bo S 0) (by rw [hlen2];omega) (preR_get (List.prefix_append _ _) (preR_get hRL hl)) (.pl (fun q hq he=>by
    have hq:q∈s3.pats++[⟨(s3.code.length:Int),0,0⟩]:=hq;rcases List.mem_append.1 hq with hq | hq
    ·rw [hps] at hq;rcases List.mem_append.1 hq with hq | hq
     ·have:=(hT.pb q hq).2;omega
     ·have:=hpl q hq;omega
    ·rw [List.mem_singleton.1 hq] at he;have he:(s3.code.length:Int)=(s.code.length:Int):=he;omega) bo_top bo_en1 (show (15:Int)≠17 by decide) (show (15:Int)≠18 by decide) (.beq ha (by
    rw [show (s.code.length:Int)+1=((s.code.length+1:Nat):Int) by omega,lookR_nat];exact preR_get (List.prefix_append _ _) (preR_get p3 (last_of hT.len _))) (by
    rw [show (s.code.length:Int)+1+(((s3.code.length+1:Nat):Int)-(s.code.length:Int)-1)=((s3.code.length+1:Nat):Int) by omega,lookR_nat];exact last_of t3.len _)))
  obtain ⟨R4,p4,t4,l4⟩:=ne _ _ t3f (by
   show (R3++[Rl.bo S 0])[((mMark ⟨17,0,0,0,0⟩ 0 0 s3).code.set _ _).length]? = _
   rw [List.length_set,hlen2];exact last_of t3.len _)
  refine ⟨R4,hRL.trans ((List.prefix_append _ _).trans p4),t4.fix hp4 (preR_get ((List.prefix_append _ _).trans p4) l3) ?_,by rw [List.length_set];exact l4⟩;refine .jmp ?_ (by rw [lookR_nat];exact l4);rw [nps];exact List.mem_append_left _ (List.mem_append_right _ List.mem_cons_self)
theorem em_while {S:Nat} {s s1 s3:CS} {a:Int} (ha:numR a) (hx:Em S s s1 (.bo S 0) (.bo S 0)) (hm:Em S (mPut ⟨15,a,0,0,0⟩ s1) s3 (.bo S 0) (.bo S 0)):Em S s (mLand (s1.code.length:Int) (mBack ⟨17,0,0,0,0⟩ (s.code.length:Int) s3)) (.bo S 0) (.bo S 0):=by
 rw [back_far rfl];obtain ⟨hxc,hxe⟩:=hx;obtain ⟨⟨hc,ps,hps,hpl⟩,he⟩:=hm;have hget:s3.code[s1.code.length]? = some ⟨15,a,0,0,0⟩:=pre_get hc (put_last s1 _);have hp:=(List.getElem?_eq_some_iff.1 hget).1;have hps:s3.pats=s1.pats++ps:=hps
 have hpl:∀ q∈ps,(s1.code.length:Int)+1≤q.pl:=fun q hq=>by
  have h1:(((s1.code++[(⟨15,a,0,0,0⟩:In)]).length:Nat):Int)≤q.pl:=hpl q hq;rw [List.length_append,List.length_singleton] at h1;omega
 have hget2:(mMark ⟨17,0,0,0,(s.code.length:Int)⟩ 0 0 s3).code[s1.code.length]? = some ⟨15,a,0,0,0⟩:=pre_get (List.prefix_append _ _) hget
 have hlen2:(mMark ⟨17,0,0,0,(s.code.length:Int)⟩ 0 0 s3).code.length=s3.code.length+1:=by
  show (s3.code++[(⟨17,0,0,0,(s.code.length:Int)⟩:In)]).length=_
  rw [List.length_append];rfl
 have hland:=land_at (s:=mMark ⟨17,0,0,0,(s.code.length:Int)⟩ 0 0 s3) (p:=s1.code.length) (j:=⟨15,a,0,0,((s3.code.length+1:Nat):Int)-(s1.code.length:Int)-1⟩) hget2 (by rw [hlen2];rfl);rw [hland];refine ⟨hxc.tr ⟨pre_set (hc.trans (List.prefix_append _ _)),ps++[⟨(s3.code.length:Int),0,0⟩],?_,fun q hq=>?_⟩,fun RL H hT hl=>?_⟩
 ·show s3.pats++[⟨(s3.code.length:Int),0,0⟩]=_
  rw [hps,List.append_assoc]
 ·rcases List.mem_append.1 hq with hq | hq
  ·have:=hpl q hq;omega
  ·rw [List.mem_singleton.1 hq];show (s1.code.length:Int)≤(s3.code.length:Int)
   omega
 ·obtain ⟨R1,p1,t1,l1⟩:=hxe RL H hT hl
  obtain ⟨R3,p3,t3,l3⟩:=he _ (s1.code.length::H) (t1.hole (r':=.bo S 0) l1) (by
   show (R1++[Rl.bo S 0])[(s1.code++[(⟨15,a,0,0,0⟩:In)]).length]? = _
   rw [List.length_append,List.length_singleton];exact last_of t1.len _)
  have hR1:R1 <+: R3:=(List.prefix_append _ _).trans p3
  have t4:TyS S (mMark ⟨17,0,0,0,(s.code.length:Int)⟩ 0 0 s3) (R3++[.bo S 0]) (s1.code.length::H):=t3.put (i:=⟨17,0,0,0,(s.code.length:Int)⟩) (r':=.bo S 0) (ps:=[⟨(s3.code.length:Int),0,0⟩]) l3 (fun q hq=>by rw [List.mem_singleton.1 hq]) (by simp) (.inr (.jmp (List.mem_append_right _ List.mem_cons_self) (by
   rw [lookR_nat];exact preR_get (List.prefix_append _ _) (preR_get (p1.trans hR1) hl))))
  have t5:=t4.fix (p:=s1.code.length) (j:=⟨15,a,0,0,((s3.code.length+1:Nat):Int)-(s1.code.length:Int)-1⟩) (r:=.bo S 0) (by show _<(s3.code++[(⟨17,0,0,0,(s.code.length:Int)⟩:In)]).length;rw [List.length_append];omega) (preR_get (List.prefix_append _ _) (preR_get hR1 l1)) (.pl (fun q hq he=>by
    have hq:q∈s3.pats++[⟨(s3.code.length:Int),0,0⟩]:=hq;rcases List.mem_append.1 hq with hq | hq
    ·rw [hps] at hq;rcases List.mem_append.1 hq with hq | hq
     ·have:=(t1.pb q hq).2;omega
     ·have:=hpl q hq;omega
    ·rw [List.mem_singleton.1 hq] at he;have he:(s3.code.length:Int)=(s1.code.length:Int):=he;omega) bo_top bo_en1 (show (15:Int)≠17 by decide) (show (15:Int)≠18 by decide) (.beq ha (by
    rw [show (s1.code.length:Int)+1=((s1.code.length+1:Nat):Int) by omega,lookR_nat];exact preR_get (List.prefix_append _ _) (preR_get p3 (last_of t1.len _))) (by
    rw [show (s1.code.length:Int)+1+(((s3.code.length+1:Nat):Int)-(s1.code.length:Int)-1)=((s3.code.length+1:Nat):Int) by omega,lookR_nat];exact last_of t3.len _)))
  refine ⟨R3++[.bo S 0],(p1.trans hR1).trans (List.prefix_append _ _),t5,?_⟩;show (R3++[Rl.bo S 0])[((s3.code++[(⟨17,0,0,0,(s.code.length:Int)⟩:In)]).set _ _).length]? = _
  rw [List.length_set,List.length_append,List.length_singleton];exact last_of t3.len _
theorem land_eq (pl:Int) (s:CS):(mLand pl s).ents=s.ents∧(mLand pl s).data=s.data:=by
 unfold mLand mAim;split <;> exact ⟨rfl,rfl⟩
theorem StO.tr {S:Nat} {s s1 s2:CS} (h:StO S s s1) (g:StO S s1 s2):StO S s s2:=⟨h.e,g.tk,h.em.tr g.em,g.en.trans h.en,g.da.trans h.da,Nat.le_trans g.ln h.ln⟩
theorem st_rf {S:Nat} {s:CS} (h:s.e=0) (ht:s.taken=0):StO S s s:=⟨h,ht,em_rf,rfl,rfl,Nat.le_refl _⟩
theorem st_tail {S:Nat} {s s2:CS} (h:StO S (mTail s) s2):StO S s s2:=⟨h.e,h.tk,(em_tail s).tr h.em,h.en,h.da,Nat.le_trans h.ln (tail_le s)⟩
theorem arg_o {N:Nat} {S:Nat} {t:Th} {s:CS} (hn:s.toks.length<N) (htk:s.taken=0) (h:(mArg N t s).e=0):StO S s (mArg N t s):=by
 unfold mArg at h ⊢;by_cases h1:t.takes=true
 ·rw [if_pos h1] at h ⊢;dsimp only at h ⊢;have h2:(mMust [41] (mExpr N (mMust [40] s)).2).e=0:=h;obtain ⟨m1,m2,m3⟩:=must_o h2;obtain ⟨n1,n2,n3⟩:=must_o (er_expr N _ m1);rw [n2] at m1 m2 ⊢;have htl:=tail_le s;have hx:=expr_o N S 0 (mTail s) (by omega) (by show s.taken≤8;omega) m1 (fun h=>absurd rfl h)
  have hr:(mExpr N (mTail s)).1=8+((0:Nat):Int):=by
   rw [hx.r];show 8+(s.taken:Int)=_
   rw [htk]
  rw [m2,hr];refine ⟨n1,?_,((em_tail s).tr hx.em).tr (((em_tail _).tr (em_put bo_top bo_en1 (show (1:Int)≠17 by decide) (show (1:Int)≠18 by decide) (fun rl hl=>.alu (by decide) (.inl rfl) (.inl rfl) (.inr (num_reg (by decide))) (.inl rfl) hl))).tr (em_give _)),hx.en,hx.da,?_⟩
  ·show (mExpr N (mTail s)).2.taken-1=0
   rw [hx.tk];show s.taken+1-1=0
   omega
  ·have h3:=hx.ln;show (mExpr N (mTail s)).2.toks.tail.length≤_
   rw [List.length_tail];omega
 ·rw [if_neg h1] at h ⊢;exact st_rf h htk
theorem call_o {N:Nat} {S:Nat} {t:Th} {s:CS} {e:ByteArray×Th} (he:e∈s.ents) (ht:e.2=t) (hk:t.kind=3∨t.kind=4) (hn:s.toks.length<N) (htk:s.taken=0) (h:(mCall N t s).e=0):StO S s (mCall N t s):=by
 unfold mCall at h ⊢;by_cases h4:t.kind=4
 ·rw [if_pos h4] at h ⊢;have h1:=arg_o (S:=S) (t:=t) hn htk (show (mArg N t s).e=0 from h);exact h1.tr ⟨h,h1.tk,em_mark2 (fun RL H hT hl=>.ext (List.mem_append_right _ List.mem_cons_self) hl),rfl,rfl,Nat.le_refl _⟩
 ·rw [if_neg h4,back_far rfl] at h ⊢;have h1:=arg_o (S:=S) (t:=t) hn htk (show (mArg N t s).e=0 from h);refine h1.tr ⟨h,h1.tk,em_mark2 (fun RL H hT hl=>?_),rfl,rfl,Nat.le_refl _⟩;obtain ⟨s2,hp⟩:=(ent_at he ht h1.en h1.da RL H hT).p (by omega);exact .jal (List.mem_append_right _ List.mem_cons_self) (look_app hp) hl
theorem begun_o {N:Nat} {S:Nat} {s:CS} (hn:s.toks.length<N) (htk:s.taken=0) (h:(mBegun N s).e=0):StO S s (mBegun N s):=by
 unfold mBegun at h ⊢;dsimp only at h ⊢;by_cases h1:(mLook (mName s).1 (mHere s) (mName s).2).2.e≠0
 ·rw [if_pos h1] at h;exact absurd h h1
 rw [if_neg h1] at h ⊢;obtain ⟨l1,l2,e,le1,le2⟩:=look_ent (Classical.not_not.1 h1);rw [l2] at h ⊢;obtain ⟨n1,n2,n3⟩:=name_o l1;have hsn:(mName s).2=mTail s:=by rw [n2]
 generalize (mLook (mName s).1 (mHere s) (mName s).2).1=t at *;rw [hsn] at h l1 le1 ⊢;have htl:=tail_le s;by_cases h3:t.kind=3∨t.kind=4
 ·rw [if_pos h3] at h ⊢;exact st_tail (call_o le1 le2 h3 (by omega) htk h)
 ·rw [if_neg h3] at h ⊢;exact st_tail (assign_o le1 le2 (by omega) (by omega) htk h)
theorem reads_o {S:Nat} {s:CS} (htk:s.taken=0) (h:(mReads s).e=0):StO S s (mReads s):=by
 unfold mReads at h ⊢;dsimp only at h ⊢;have hse:=fun s'=>(store_eq (mLook (mName s).1 (mHere s) (mName s).2).1 4 s').2.2.2.2
 rw [hse] at h;have h:(if (mLook (mName s).1 (mHere s) (mName s).2).2.e=0∧(mLook (mName s).1 (mHere s) (mName s).2).1.kind≠0∧(mLook (mName s).1 (mHere s) (mName s).2).1.kind≠2 then mStop 7 (mHere s) (mLook (mName s).1 (mHere s) (mName s).2).2 else (mLook (mName s).1 (mHere s) (mName s).2).2).e=0:=h;by_cases h1:(mLook (mName s).1 (mHere s) (mName s).2).2.e=0∧(mLook (mName s).1 (mHere s) (mName s).2).1.kind≠0∧(mLook (mName s).1 (mHere s) (mName s).2).1.kind≠2
 ·rw [if_pos h1] at h;exact absurd h (stop_e _ _ _ (by decide))
 rw [if_neg h1] at h ⊢;obtain ⟨l1,l2,e,le1,le2⟩:=look_ent h;rw [l2] at h h1 ⊢;obtain ⟨n1,n2,n3⟩:=name_o l1;have hsn:(mName s).2=mTail s:=by rw [n2]
 generalize (mLook (mName s).1 (mHere s) (mName s).2).1=t at *;rw [hsn] at h l1 le1 h1 ⊢
 have hk:t.kind≠1∧t.kind≠3∧t.kind≠4:=by
  have:¬ (t.kind≠0∧t.kind≠2):=fun h3=>h1 ⟨l1,h3⟩
  omega
 obtain ⟨q1,q2,q3,q4,q5⟩:=store_eq t 4 (mPut ⟨20,0,0,0,1⟩ (mTail s));refine ⟨n1,by rw [q3];exact htk,((em_tail s).tr (em_put bo_top bo_en1 (show (20:Int)≠17 by decide) (show (20:Int)≠18 by decide) (fun rl hl=>.read hl))).tr (em_store (ent_at (s:=mTail s) (s':=mPut ⟨20,0,0,0,1⟩ (mTail s)) le1 le2 rfl rfl) hk (.inr (.inl rfl))),q1,q2,?_⟩;rw [q4];exact tail_le s
def ErS (f:CS→CS):Prop:=∀ s,(f s).e=0→s.e=0
theorem within_e {pl:Int} {f:CS→CS} {s:CS} (h:(mWithin pl f s).e=0):(f { s with nest:=s.nest+1 }).e=0∧mWithin pl f s={ f { s with nest:=s.nest+1 } with nest:=(f { s with nest:=s.nest+1 }).nest-1 }:=by
 unfold mWithin at h ⊢;split at h
 ·exact absurd h (stop_e _ _ _ (by decide))
 ·rename_i hf;rw [if_neg hf];exact ⟨h,rfl⟩
theorem ers_within {f:CS→CS} (hf:ErS f) {pl:Int} {s:CS} (h:(mWithin pl f s).e=0):s.e=0:=hf { s with nest:=s.nest+1 } (within_e h).1
theorem within_o {N:Nat} {f:CS→CS} (hf:StT N f) {S:Nat} {pl:Int} {s:CS} (hn:s.toks.length<N) (htk:s.taken=0) (h:(mWithin pl f s).e=0):StO S s (mWithin pl f s):=by
 obtain ⟨h1,h2⟩:=within_e h;have h3:=hf S { s with nest:=s.nest+1 } hn htk h1;rw [h2];exact ⟨h3.e,h3.tk,((em_same rfl rfl rfl rfl rfl:Em S s { s with nest:=s.nest+1 } _ _).tr h3.em).tr (em_same rfl rfl rfl rfl rfl),h3.en,h3.da,h3.ln⟩
theorem must_e0 {w:List UInt8} {s:CS} (h:(mMust w s).e=0):s.e=0:=(must_o h).1
theorem choice_o {N:Nat} {f:CS→CS} (hf:StT N f) (hfe:ErS f) {S:Nat} {pl:Int} {s:CS} (hn:s.toks.length<N) (htk:s.taken=0) (h:(mChoice N f pl s).e=0):StO S s (mChoice N f pl s):=by
 unfold mChoice at h ⊢;dsimp only at h ⊢
 have hr0:(mMust [116,104,101,110] (mExpr N s).2).e=0:=by
  split at h
  ·rw [(land_e _ _).1] at h;have h1:=ers_within hfe (must_e0 h);rw [(land_e _ _).1] at h1;exact ers_within hfe (s:=mGive (mJump ⟨15,(mExpr N s).1,0,0,0⟩ (mMust [116,104,101,110] (mExpr N s).2))) h1
  ·rw [(land_e _ _).1] at h;exact ers_within hfe (s:=mGive (mJump ⟨15,(mExpr N s).1,0,0,0⟩ (mMust [116,104,101,110] (mExpr N s).2))) (must_e0 h)
 obtain ⟨m1,m2,m3⟩:=must_o hr0;have hx:=expr_o N S 0 s hn (by omega) m1 (fun h=>absurd rfl h);have hr:(mExpr N s).1=8+((0:Nat):Int):=by rw [hx.r,htk]
 have hnum:numR (8+((0:Nat):Int)):=num_reg (by decide);have hx1:(mExpr N s).2.taken=1:=by rw [hx.tk,htk]
 have hxl:=hx.ln;rw [m2,hr] at h ⊢;have hjp:mJump ⟨15,8+((0:Nat):Int),0,0,0⟩ (mTail (mExpr N s).2)=mPut ⟨15,8+((0:Nat):Int),0,0,0⟩ (mTail (mExpr N s).2):=rfl;rw [hjp] at h ⊢;have htl:=tail_le (mExpr N s).2
 have hw:∀ (hh:(mWithin pl f (mGive (mPut ⟨15,8+((0:Nat):Int),0,0,0⟩ (mTail (mExpr N s).2)))).e=0),StO S (mGive (mPut ⟨15,8+((0:Nat):Int),0,0,0⟩ (mTail (mExpr N s).2))) (mWithin pl f (mGive (mPut ⟨15,8+((0:Nat):Int),0,0,0⟩ (mTail (mExpr N s).2)))):=fun hh=>
  within_o hf (by show (mTail (mExpr N s).2).toks.length<N;omega) (by show (mExpr N s).2.taken-1=0;omega) hh
 have hgl:(mGive (mPut ⟨15,8+((0:Nat):Int),0,0,0⟩ (mTail (mExpr N s).2))).toks.length=(mTail (mExpr N s).2).toks.length:=rfl;have hge:(mGive (mPut ⟨15,8+((0:Nat):Int),0,0,0⟩ (mTail (mExpr N s).2))).ents=(mExpr N s).2.ents∧(mGive (mPut ⟨15,8+((0:Nat):Int),0,0,0⟩ (mTail (mExpr N s).2))).data=(mExpr N s).2.data:=⟨rfl,rfl⟩
 by_cases hs:mSees [101,108,115,101] (mWithin pl f (mGive (mPut ⟨15,8+((0:Nat):Int),0,0,0⟩ (mTail (mExpr N s).2))))=true
 ·rw [if_pos hs] at h ⊢;have hjm:∀ s3,mJump ⟨17,0,0,0,0⟩ s3=mMark ⟨17,0,0,0,0⟩ 0 0 s3:=fun s3=>rfl
  rw [hjm] at h ⊢;rw [(land_e _ _).1] at h;obtain ⟨c1,c2,c3⟩:=must_o h;have c4:=ers_within hfe c1;rw [(land_e _ _).1] at c4;have hw2:=hw c4;generalize mWithin pl f (mGive (mPut ⟨15,8+((0:Nat):Int),0,0,0⟩ (mTail (mExpr N s).2)))=s2 at *;have hl2:=hw2.ln;have htl2:=tail_le s2
  have hw3:=within_o hf (S:=S) (pl:=pl) (s:=mLand ((mTail (mExpr N s).2).code.length:Int) (mMark ⟨17,0,0,0,0⟩ 0 0 (mTail s2))) (by
   rw [(land_e _ _).2.2];show (mTail s2).toks.length<N
   omega) (by
   rw [(land_e _ _).2.1];exact hw2.tk) c1
  rw [c2];have hE:=em_else hnum ((em_give _).tr (hw2.em.tr (em_tail s2))) (hw3.em.tr (em_tail _));have hl3:=hw3.ln;rw [(land_e _ _).2.2] at hl3;have hl3:_≤(mTail s2).toks.length:=hl3;refine ⟨hx.e,?_,(hx.em.tr (em_tail _)).tr hE,?_,?_,?_⟩
  ·rw [(land_e _ _).2.1];exact hw3.tk
  ·rw [(land_eq _ _).1];show (mWithin pl f _).ents=_
   rw [hw3.en,(land_eq _ _).1];show s2.ents=_
   rw [hw2.en,hge.1,hx.en]
  ·rw [(land_eq _ _).2];show (mWithin pl f _).data=_
   rw [hw3.da,(land_eq _ _).2];show s2.data=_
   rw [hw2.da,hge.2,hx.da]
  ·rw [(land_e _ _).2.2];show (mTail (mWithin pl f _)).toks.length≤_
   have:=tail_le (mWithin pl f (mLand ((mTail (mExpr N s).2).code.length:Int) (mMark ⟨17,0,0,0,0⟩ 0 0 (mTail s2))));omega
 ·rw [if_neg hs] at h ⊢;rw [(land_e _ _).1] at h;obtain ⟨c1,c2,c3⟩:=must_o h;have hw2:=hw c1;rw [c2];generalize mWithin pl f (mGive (mPut ⟨15,8+((0:Nat):Int),0,0,0⟩ (mTail (mExpr N s).2)))=s2 at *;have hl2:=hw2.ln;have htl2:=tail_le s2;have hE:=em_if hnum ((em_give _).tr (hw2.em.tr (em_tail s2)));refine ⟨hx.e,?_,(hx.em.tr (em_tail _)).tr hE,?_,?_,?_⟩
  ·rw [(land_e _ _).2.1];exact hw2.tk
  ·rw [(land_eq _ _).1];show s2.ents=_
   rw [hw2.en,hge.1,hx.en]
  ·rw [(land_eq _ _).2];show s2.data=_
   rw [hw2.da,hge.2,hx.da]
  ·rw [(land_e _ _).2.2];omega
theorem ers_choice {N:Nat} {f:CS→CS} (hfe:ErS f) {pl:Int} {s:CS} (h:(mChoice N f pl s).e=0):s.e=0:=by
 unfold mChoice at h;dsimp only at h
 have hr0:(mMust [116,104,101,110] (mExpr N s).2).e=0:=by
  split at h
  ·rw [(land_e _ _).1] at h;have h1:=ers_within hfe (must_e0 h);rw [(land_e _ _).1] at h1;exact ers_within hfe (s:=mGive (mJump ⟨15,(mExpr N s).1,0,0,0⟩ (mMust [116,104,101,110] (mExpr N s).2))) h1
  ·rw [(land_e _ _).1] at h;exact ers_within hfe (s:=mGive (mJump ⟨15,(mExpr N s).1,0,0,0⟩ (mMust [116,104,101,110] (mExpr N s).2))) (must_e0 h)
 exact er_expr N _ (must_e0 hr0)
theorem loop_e {N:Nat} {f:CS→CS} (hfe:ErS f) {pl:Int} {s:CS} (h:(mLoop N f pl s).e=0):(mMust [100,111] (mExpr N s).2).e=0∧(mMust [101,110,100] (mWithin pl f (mGive (mJump ⟨15,(mExpr N s).1,0,0,0⟩ (mMust [100,111] (mExpr N s).2))))).e=0:=by
 unfold mLoop at h;dsimp only at h;rw [(land_e _ _).1,back_far rfl] at h;have h1:(mMust [101,110,100] (mWithin pl f (mGive (mJump ⟨15,(mExpr N s).1,0,0,0⟩ (mMust [100,111] (mExpr N s).2))))).e=0:=h;exact ⟨ers_within hfe (s:=mGive (mJump ⟨15,(mExpr N s).1,0,0,0⟩ (mMust [100,111] (mExpr N s).2))) (must_e0 h1),h1⟩
theorem loop_o {N:Nat} {f:CS→CS} (hf:StT N f) (hfe:ErS f) {S:Nat} {pl:Int} {s:CS} (hn:s.toks.length<N) (htk:s.taken=0) (h:(mLoop N f pl s).e=0):StO S s (mLoop N f pl s):=by
 obtain ⟨h1,h2⟩:=loop_e hfe h;obtain ⟨m1,m2,m3⟩:=must_o h1;have hx:=expr_o N S 0 s hn (by omega) m1 (fun h=>absurd rfl h);have hr:(mExpr N s).1=8+((0:Nat):Int):=by rw [hx.r,htk]
 have hnum:numR (8+((0:Nat):Int)):=num_reg (by decide);have hx1:(mExpr N s).2.taken=1:=by rw [hx.tk,htk]
 have hxl:=hx.ln;have htl:=tail_le (mExpr N s).2;unfold mLoop;dsimp only;rw [m2,hr] at h2 ⊢;have hjp:mJump ⟨15,8+((0:Nat):Int),0,0,0⟩ (mTail (mExpr N s).2)=mPut ⟨15,8+((0:Nat):Int),0,0,0⟩ (mTail (mExpr N s).2):=rfl;rw [hjp] at h2 ⊢;obtain ⟨c1,c2,c3⟩:=must_o h2;have hw2:=within_o hf (S:=S) (pl:=pl) (s:=mGive (mPut ⟨15,8+((0:Nat):Int),0,0,0⟩ (mTail (mExpr N s).2))) (by show (mTail (mExpr N s).2).toks.length<N;omega) (by show (mExpr N s).2.taken-1=0;omega) c1;have hgl:(mGive (mPut ⟨15,8+((0:Nat):Int),0,0,0⟩ (mTail (mExpr N s).2))).toks.length=(mTail (mExpr N s).2).toks.length:=rfl;have hge:(mGive (mPut ⟨15,8+((0:Nat):Int),0,0,0⟩ (mTail (mExpr N s).2))).ents=(mExpr N s).2.ents∧(mGive (mPut ⟨15,8+((0:Nat):Int),0,0,0⟩ (mTail (mExpr N s).2))).data=(mExpr N s).2.data:=⟨rfl,rfl⟩
 rw [c2];generalize mWithin pl f (mGive (mPut ⟨15,8+((0:Nat):Int),0,0,0⟩ (mTail (mExpr N s).2)))=s2 at *;have hl2:=hw2.ln;have htl2:=tail_le s2;have hE:=em_while hnum (hx.em.tr (em_tail _)) ((em_give _).tr (hw2.em.tr (em_tail s2)));refine ⟨hx.e,?_,hE,?_,?_,?_⟩
 ·rw [(land_e _ _).2.1,back_far rfl];exact hw2.tk
 ·rw [(land_eq _ _).1,back_far rfl];show s2.ents=_
  rw [hw2.en,hge.1,hx.en]
 ·rw [(land_eq _ _).2,back_far rfl];show s2.data=_
  rw [hw2.da,hge.2,hx.da]
 ·rw [(land_e _ _).2.2,back_far rfl];show (mTail s2).toks.length≤_
  omega
theorem write_o {N:Nat} {S:Nat} {s:CS} (hn:s.toks.length<N) (htk:s.taken=0) (h:(mExpr N s).2.e=0):StO S s (mGive (mPut ⟨20,0,0,0,2⟩ (mPut ⟨1,4,(mExpr N s).1,0,0⟩ (mExpr N s).2))):=by
 have hx:=expr_o N S 0 s hn (by omega) h (fun h=>absurd rfl h);have hr:(mExpr N s).1=8+((0:Nat):Int):=by rw [hx.r,htk]
 rw [hr];refine ⟨hx.e,?_,hx.em.tr (((em_put bo_top bo_en1 (show (1:Int)≠17 by decide) (show (1:Int)≠18 by decide) (fun rl hl=>.alu (by decide) (.inl rfl) (.inl rfl) (.inr (num_reg (by decide))) (.inl rfl) hl)).tr (em_put bo_top bo_en1 (show (20:Int)≠17 by decide) (show (20:Int)≠18 by decide) (fun rl hl=>.writ hl))).tr (em_give _)),hx.en,hx.da,hx.ln⟩;show (mExpr N s).2.taken-1=0
 rw [hx.tk,htk]
theorem ers_begun {N:Nat} {s:CS} (h:(mBegun N s).e=0):s.e=0:=by
 unfold mBegun at h;dsimp only at h;by_cases h1:(mLook (mName s).1 (mHere s) (mName s).2).2.e≠0
 ·rw [if_pos h1] at h;exact absurd h h1
 ·exact (name_o (look_ent (Classical.not_not.1 h1)).1).1
theorem ers_reads {s:CS} (h:(mReads s).e=0):s.e=0:=by
 unfold mReads at h;dsimp only at h;have hse:=fun s'=>(store_eq (mLook (mName s).1 (mHere s) (mName s).2).1 4 s').2.2.2.2
 rw [hse] at h;have h:(if (mLook (mName s).1 (mHere s) (mName s).2).2.e=0∧(mLook (mName s).1 (mHere s) (mName s).2).1.kind≠0∧(mLook (mName s).1 (mHere s) (mName s).2).1.kind≠2 then mStop 7 (mHere s) (mLook (mName s).1 (mHere s) (mName s).2).2 else (mLook (mName s).1 (mHere s) (mName s).2).2).e=0:=h;split at h
 ·exact absurd h (stop_e _ _ _ (by decide))
 ·exact (name_o (look_ent h).1).1
theorem ers_stmtB {N:Nat} {f:CS→CS} (hfe:ErS f):ErS (mStmtB N f):=by
 intro s h;unfold mStmtB at h;dsimp only at h;split at h
 ·exact ers_choice (s:=mTail s) hfe h
 ·split at h
  ·exact er_expr N (mTail s) (must_e0 (loop_e (s:=mTail s) hfe h).1)
  ·split at h
   ·exact er_expr N (mTail s) h
   ·split at h
    ·exact ers_reads (s:=mTail s) h
    ·split at h
     ·exact ers_begun h
     ·exact h
theorem stmtB_o {N:Nat} {f:CS→CS} (hf:StT N f) (hfe:ErS f):StT N (mStmtB N f):=by
 intro S s hn htk h;have htl:=tail_le s;unfold mStmtB at h ⊢;dsimp only at h ⊢;by_cases h1:mSees [105,102] s=true
 ·rw [if_pos h1] at h ⊢;exact st_tail (choice_o hf hfe (by omega) htk h)
 rw [if_neg h1] at h ⊢;by_cases h2:mSees [119,104,105,108,101] s=true
 ·rw [if_pos h2] at h ⊢;exact st_tail (loop_o hf hfe (by omega) htk h)
 rw [if_neg h2] at h ⊢;by_cases h3:mSees [119,114,105,116,101] s=true
 ·rw [if_pos h3] at h ⊢;exact st_tail (write_o (by omega) htk h)
 rw [if_neg h3] at h ⊢;by_cases h4:mSees [114,101,97,100] s=true
 ·rw [if_pos h4] at h ⊢;exact st_tail (reads_o htk h)
 rw [if_neg h4] at h ⊢;by_cases h5:mNamed s=true
 ·rw [if_pos h5] at h ⊢;exact begun_o hn htk h
 ·rw [if_neg h5] at h ⊢;exact st_rf h htk
theorem ers_seqs {st:CS→CS} (hs:ErS st):∀ (m:Nat) (s:CS),(mSeqs st m s).e=0→s.e=0
 | 0,s,h=>h
 | m+1,s,h=>by
  unfold mSeqs at h;split at h
  ·rename_i h1;exact h1.1
  ·exact h
theorem seqs_o {N:Nat} {st:CS→CS} (hs:StT N st) (hse:ErS st) {S:Nat}:∀ (m:Nat) (s:CS),s.toks.length<N→s.taken=0→(mSeqs st m s).e=0→StO S s (mSeqs st m s)
 | 0,s,_,htk,h=>st_rf h htk
 | m+1,s,hn,htk,h=>by
  unfold mSeqs at h ⊢;by_cases h1:s.e=0∧mSees [59] s=true
  ·rw [if_pos h1] at h ⊢;have htl:=tail_le s;have h2:=hs S (mTail s) (by omega) htk (ers_seqs hse m _ h);have hl:=h2.ln;exact st_tail (h2.tr (seqs_o hs hse m _ (by omega) h2.tk h))
  ·rw [if_neg h1] at h ⊢;exact st_rf h htk
theorem ers_stmtsB {st:CS→CS} (hs:ErS st):ErS (mStmtsB st):=fun s h=>hs s (ers_seqs hs _ _ h)
theorem stmtsB_o {N:Nat} {st:CS→CS} (hs:StT N st) (hse:ErS st):StT N (mStmtsB st):=fun S s hn htk h=>by
 have h1:=hs S s hn htk (ers_seqs hse _ _ h);have hl:=h1.ln;exact h1.tr (seqs_o hs hse _ _ (by omega) h1.tk h)
theorem ers_stmt (N:Nat):∀ n,ErS (mStmt N n)
 | 0=>fun s h=>h
 | n+1=>ers_stmtB (ers_stmtsB (ers_stmt N n))
theorem stmt_o (N:Nat):∀ n,StT N (mStmt N n)
 | 0=>fun S s hn htk h=>st_rf h htk
 | n+1=>stmtB_o (stmtsB_o (stmt_o N n) (ers_stmt N n)) (ers_stmtsB (ers_stmt N n))
theorem ers_stmts (N:Nat):ErS (mStmts N):=ers_stmtsB (ers_stmt N N)
theorem stmts_o (N:Nat):StT N (mStmts N):=stmtsB_o (stmt_o N N) (ers_stmt N N)
def TyD (s:CS) (RS:List Rl) (H:List Nat):Prop:=∀ X,TyS 0 s (RS++[X]) H
theorem look_noR {RS:List Rl} {t:Int} {ρ:Rl} (h:lookR (RS++[noR]) t=some ρ) (hn:ρ≠noR):lookR RS t=some ρ:=by
 unfold lookR at h ⊢;split at h
 ·rename_i h0;rw [if_pos h0];by_cases hl:t.toNat<RS.length
  ·rw [List.getElem?_append_left hl] at h;exact h
  ·rw [List.getElem?_append_right (by omega)] at h;have:=List.mem_of_getElem? h;simp at this;exact absurd this hn
 ·cases h
theorem TyD.same {s s':CS} {RS:List Rl} {H:List Nat} (h:TyD s RS H) (h1:s'.code=s.code) (h2:s'.pats=s.pats) (h3:s'.exps=s.exps) (h4:s.data≤s'.data) (h5:∀ e∈s'.ents,e∈s.ents∨∀ X,EntOk 0 s'.data (RS++[X]) e.2):TyD s' RS H:=fun X=>by
 have hx:=h X;refine ⟨by rw [h1];exact hx.len,?_,by rw [h2];exact hx.so,by rw [h2,h1];exact hx.pb,fun e he=>?_,by rw [h3];exact hx.xp⟩
 ·rw [h1,h2];intro p i hp;exact (hx.ok p i hp).imp id (fun ⟨r,h6,h7⟩=>⟨r,h6,h7.mono h4 (fun _ _ h _=>h) (fun _ h=>h) (fun _ h _=>h)⟩)
 ·rcases h5 e he with h6 | h6
  ·exact (hx.ent e h6).mono (Nat.le_refl _) h4 (fun _ _ h=>h)
  ·exact h6 X
structure Dl (s s':CS):Prop where
 e:s.e=0
 tk:s'.taken=s.taken
 da:s.data≤s'.data
 ln:s'.toks.length≤s.toks.length
 xt:Xt s s'
theorem Dl.tr {s s1 s2:CS} (h:Dl s s1) (g:Dl s1 s2):Dl s s2:=⟨h.e,g.tk.trans h.tk,Int.le_trans h.da g.da,Nat.le_trans g.ln h.ln,h.xt.tr g.xt⟩
theorem define_o {n:List UInt8} {pl:Int} {t:Th} {s:CS} (h:(mDefine n pl t s).e=0):s.e=0∧mDefine n pl t s={ s with ents:=s.ents++[(Sc.bs n,t)] }:=by
 unfold mDefine at h ⊢;by_cases h0:s.e=0
 ·rw [if_pos h0] at h ⊢;by_cases h1:mDefOk n s=true
  ·rw [if_pos h1] at h ⊢;unfold mDef;rw [if_pos h1];exact ⟨h0,rfl⟩
  ·rw [if_neg h1] at h;exact absurd h (stop_e _ _ _ (by decide))
 ·rw [if_neg h0] at h;exact absurd h h0
theorem fresh_o {n:List UInt8} {pl k:Int} {s:CS} (h:(mFresh n pl k s).e=0):s.e=0∧mFresh n pl k s=s:=by
 unfold mFresh at h ⊢;dsimp only at h ⊢;by_cases h1:s.e=0∧(mFind n s).2.2=true
 ·rw [if_pos h1] at h;exfalso;split at h
  ·exact stop_e _ _ _ (by decide) h
  ·exact stop_e _ _ _ (by decide) h
 ·rw [if_neg h1] at h ⊢;by_cases h2:s.e=0∧k=255
  ·rw [if_pos h2] at h;exact absurd h (stop_e _ _ _ (by decide))
  ·rw [if_neg h2] at h ⊢;exact ⟨h,rfl⟩
theorem param_o {s:CS} (h:(mParam s).2.e=0):s.e=0∧∃ l,(mParam s).2={ s with toks:=l }∧l.length≤s.toks.length:=by
 unfold mParam at h ⊢;by_cases h1:mSees [40] s=true
 ·rw [if_pos h1] at h ⊢;dsimp only at h ⊢;obtain ⟨m1,m2,m3⟩:=must_o h;obtain ⟨n1,n2,n3⟩:=name_o m1;rw [m2,n2];refine ⟨n1,_,rfl,?_⟩;rw [List.length_tail];show (s.toks.tail.tail).length-1≤_
  rw [List.length_tail,List.length_tail];omega
 ·rw [if_neg h1] at h ⊢;exact ⟨h,s.toks,rfl,Nat.le_refl _⟩
theorem imported_o {s:CS} {RS:List Rl} {H:List Nat} (ht:TyD s RS H) (h:(mImported s).e=0):Dl s (mImported s)∧TyD (mImported s) RS H:=by
 unfold mImported at h ⊢;dsimp only at h ⊢;obtain ⟨m1,m2,m3⟩:=must_o h;have hd:(mDefine (mName s).1 (mHere s) ⟨4,((mName s).2.imps.length:Int),0,(mParam (mFresh (mName s).1 (mHere s) ((mName s).2.imps.length:Int) (mName s).2)).1.2.2⟩ (mParam (mFresh (mName s).1 (mHere s) ((mName s).2.imps.length:Int) (mName s).2)).2).e=0:=m1;obtain ⟨d1,d2⟩:=define_o hd;obtain ⟨p1,l,p2,p3⟩:=param_o d1;obtain ⟨f1,f2⟩:=fresh_o p1;obtain ⟨n1,n2,n3⟩:=name_o f1;rw [m2,d2,p2,f2];rw [f2] at p3;have hsn:(mName s).2=mTail s:=by rw [n2]
 rw [hsn] at p3 ⊢;have htl:=tail_le s;refine ⟨⟨n1,rfl,Int.le_refl _,?_,xt_same rfl rfl⟩,ht.same rfl rfl rfl (Int.le_refl _) (fun e he=>?_)⟩
 ·show l.tail.length≤_
  rw [List.length_tail];omega
 ·have he:e∈s.ents++_:=he;rcases List.mem_append.1 he with he | he
  ·exact .inl he
  ·right;intro X;rw [List.mem_singleton.1 he];exact ⟨fun h=>(by cases h),fun h=>(by cases h),fun h=>(by cases h),fun h=>(by cases h),(show (0:Int)≤4 by decide),(show (4:Int)≤4 by decide)⟩
theorem def_mem (n:List UInt8) (t:Th) (s:CS):∀ e∈(mDef n t s).ents,e∈s.ents∨e.2=t:=by
 unfold mDef;split
 ·intro e he;rcases List.mem_append.1 he with he | he
  ·exact .inl he
  ·right;rw [List.mem_singleton.1 he]
 ·exact fun e he=>.inl he
theorem def_keep (n:List UInt8) (t:Th) (s:CS):(mDef n t s).code=s.code∧(mDef n t s).pats=s.pats∧(mDef n t s).exps=s.exps∧(mDef n t s).taken=s.taken∧(mDef n t s).begs=s.begs∧(mDef n t s).toks=s.toks∧(mDef n t s).e=s.e:=by
 unfold mDef;split <;> exact ⟨rfl,rfl,rfl,rfl,rfl,rfl,rfl⟩
theorem defs_mem:∀ (l:List (ByteArray×Th)) (s:CS),∀ e∈(mDefs s l).ents,e∈s.ents∨∃ x∈l,x.2=e.2
 | [],s,e,he=>.inl he
 | x::l,s,e,he=>by
  rw [mDefs] at he;rcases defs_mem l _ e he with h | ⟨y,hy,h⟩
  ·rcases def_mem _ _ _ e h with h | h
   ·exact .inl h
   ·exact .inr ⟨x,List.mem_cons_self,h.symm⟩
  ·exact .inr ⟨y,List.mem_cons_of_mem _ hy,h⟩
theorem defs_keep:∀ (l:List (ByteArray×Th)) (s:CS),(mDefs s l).code=s.code∧(mDefs s l).pats=s.pats∧(mDefs s l).exps=s.exps∧(mDefs s l).taken=s.taken∧(mDefs s l).begs=s.begs∧(mDefs s l).toks=s.toks∧(mDefs s l).e=s.e
 | [],s=>⟨rfl,rfl,rfl,rfl,rfl,rfl,rfl⟩
 | x::l,s=>by
  obtain ⟨h1,h2,h3,h4,h5,h6,h7⟩:=defs_keep l (mDef (Sc.txt x.1) x.2 s);obtain ⟨g1,g2,g3,g4,g5,g6,g7⟩:=def_keep (Sc.txt x.1) x.2 s;rw [mDefs];exact ⟨h1.trans g1,h2.trans g2,h3.trans g3,h4.trans g4,h5.trans g5,h6.trans g6,h7.trans g7⟩
theorem redefine_mem (n:List UInt8) (t:Th) (s:CS):∀ e∈(mRedefine n t s).ents,(∃ x∈s.ents,x.2=e.2)∨e.2=t:=by
 intro e he;unfold mRedefine at he;rcases defs_mem _ _ e he with h | ⟨x,hx,h⟩
 ·left;have h:e∈(mClose s).ents:=h;unfold mClose at h;split at h
  ·exact ⟨e,h,rfl⟩
  ·exact ⟨e,List.mem_of_mem_take h,rfl⟩
 ·obtain ⟨y,hy,rfl⟩:=List.mem_map.1 hx
  have hy2:y∈s.ents:=by
   unfold mOwn at hy;split at hy
   ·cases hy
   ·exact List.mem_of_mem_drop hy
  split at h
  ·exact .inr h.symm
  ·exact .inl ⟨y,hy2,h⟩
theorem redefine_keep (n:List UInt8) (t:Th) (s:CS):(mRedefine n t s).code=s.code∧(mRedefine n t s).pats=s.pats∧(mRedefine n t s).exps=s.exps∧(mRedefine n t s).taken=s.taken∧(mRedefine n t s).toks=s.toks∧(mRedefine n t s).e=s.e:=by
 unfold mRedefine
 have hc:(mClose s).code=s.code∧(mClose s).pats=s.pats∧(mClose s).exps=s.exps∧(mClose s).taken=s.taken∧(mClose s).toks=s.toks∧(mClose s).e=s.e:=by
  unfold mClose;split <;> exact ⟨rfl,rfl,rfl,rfl,rfl,rfl⟩
 obtain ⟨h1,h2,h3,h4,h5,h6⟩:=hc;obtain ⟨g1,g2,g3,g4,g5,g6,g7⟩:=defs_keep ((mOwn s).map fun e=>if e.1=Sc.bs n then (e.1,t) else e) (mOpen (mClose s));exact ⟨g1.trans h1,g2.trans h2,g3.trans h3,g4.trans h4,g6.trans h5,g7.trans h6⟩
theorem variable_o {s:CS} {RS:List Rl} {H:List Nat} (ht:TyD s RS H) (hd:0≤s.data) (h:(mVariable s).e=0):Dl s (mVariable s)∧TyD (mVariable s) RS H:=by
 have kg:∀ (d D:Int) (X:List Rl),0≤d→d<D→EntOk 0 D X ⟨0,d,1,false⟩:=fun d D X h1 h2=>⟨fun _=>⟨h1,h2⟩,fun h=>(by cases h),fun h=>(by cases h),fun h=>(by cases h),(show (0:Int)≤0 by decide),(show (0:Int)≤4 by decide)⟩
 unfold mVariable at h ⊢;dsimp only at h ⊢
 have hfin:(mDefine (mName s).1 (mHere s) ⟨0,(mName s).2.data,1,false⟩ (mName s).2).e=0:=by
  split at h
  ·split at h
   ·rename_i h1;exact absurd h h1
   ·rename_i h1;obtain ⟨_,n1,n2⟩:=ex_num h1;rw [n2] at h1;exact Classical.not_not.1 h1
  ·have h1:=must_e0 h;have h1:(if (mDefine (mName s).1 (mHere s) ⟨0,(mName s).2.data,1,false⟩ (mName s).2).e=0∧(mDefine (mName s).1 (mHere s) ⟨0,(mName s).2.data,1,false⟩ (mName s).2).data=32000 then mStop 4 (mHere s) (mDefine (mName s).1 (mHere s) ⟨0,(mName s).2.data,1,false⟩ (mName s).2) else (mDefine (mName s).1 (mHere s) ⟨0,(mName s).2.data,1,false⟩ (mName s).2)).e=0:=h1;split at h1
   ·exact absurd h1 (stop_e _ _ _ (by decide))
   ·exact h1
 obtain ⟨d1,d2⟩:=define_o hfin;obtain ⟨n1,n2,n3⟩:=name_o d1;have hsn:(mName s).2=mTail s:=by rw [n2]
 rw [d2,hsn] at h ⊢;have htl:=tail_le s;generalize (mName s).1=nm at *;by_cases h1:mSees [91] { mTail s with ents:=(mTail s).ents++[(Sc.bs nm,(⟨0,(mTail s).data,1,false⟩:Th))] }=true
 ·rw [if_pos h1] at h ⊢;by_cases h2:(mNumber (mTail { mTail s with ents:=(mTail s).ents++[(Sc.bs nm,(⟨0,(mTail s).data,1,false⟩:Th))] })).2.e≠0
  ·rw [if_pos h2] at h;exact absurd h h2
  rw [if_neg h2] at h ⊢;obtain ⟨_,m1,m2⟩:=ex_num h2;rw [m2] at h ⊢;dsimp only at h ⊢;generalize mNum (mTail { mTail s with ents:=(mTail s).ents++[(Sc.bs nm,(⟨0,(mTail s).data,1,false⟩:Th))] })=k at *;by_cases h3:k<1∨2000<k
  ·rw [if_pos (by omega)] at h;exact absurd h (stop_e _ _ _ (by decide))
  rw [if_neg (by omega)] at h ⊢;split at h
  ·exact absurd h (stop_e _ _ _ (by decide))
  rename_i h4;rw [if_neg h4];obtain ⟨c1,c2,c3⟩:=must_o h;have c1:(mMust [93] (mRedefine nm ⟨1,(mTail s).data,k,false⟩ (mTail (mTail { mTail s with ents:=(mTail s).ents++[(Sc.bs nm,(⟨0,(mTail s).data,1,false⟩:Th))] })))).e=0:=c1;obtain ⟨e1,e2,e3⟩:=must_o c1;rw [c2,e2];obtain ⟨g1,g2,g3,g4,g5,g6⟩:=redefine_keep nm ⟨1,(mTail s).data,k,false⟩ (mTail (mTail { mTail s with ents:=(mTail s).ents++[(Sc.bs nm,(⟨0,(mTail s).data,1,false⟩:Th))] }));have g7:=redefine_data nm ⟨1,(mTail s).data,k,false⟩ (mTail (mTail { mTail s with ents:=(mTail s).ents++[(Sc.bs nm,(⟨0,(mTail s).data,1,false⟩:Th))] }));have g8:=redefine_mem nm ⟨1,(mTail s).data,k,false⟩ (mTail (mTail { mTail s with ents:=(mTail s).ents++[(Sc.bs nm,(⟨0,(mTail s).data,1,false⟩:Th))] }));generalize mRedefine nm ⟨1,(mTail s).data,k,false⟩ (mTail (mTail { mTail s with ents:=(mTail s).ents++[(Sc.bs nm,(⟨0,(mTail s).data,1,false⟩:Th))] }))=q at *;have g7:q.data=s.data:=g7;have g5:q.toks=s.toks.tail.tail.tail:=g5;refine ⟨⟨n1,g4,?_,?_,xt_same g1 g2⟩,ht.same g1 g2 g3 ?_ (fun e he=>?_)⟩
  ·show s.data≤q.data+k
   omega
  ·show q.toks.tail.tail.length≤_
   rw [g5];simp only [List.length_tail];omega
  ·show s.data≤q.data+k
   omega
  ·have he:e∈q.ents:=he;show e∈s.ents∨∀ X,EntOk 0 (q.data+k) (RS++[X]) e.2
   right;intro X;rw [g7];rcases g8 e he with ⟨x,hx,hx2⟩ | h5
   ·have hx:x∈s.ents++[(Sc.bs nm,(⟨0,s.data,1,false⟩:Th))]:=hx;rw [← hx2];rcases List.mem_append.1 hx with hx | hx
    ·exact ((ht X).ent x hx).mono (Nat.le_refl _) (by omega) (fun _ _ h=>h)
    ·rw [List.mem_singleton.1 hx];exact kg _ _ _ hd (by omega)
   ·rw [h5];exact ⟨fun h=>(by cases h),fun _=>⟨hd,(show 0<k by omega),Int.le_refl _⟩,fun h=>(by cases h),fun h=>(by cases h),(show (0:Int)≤1 by decide),(show (1:Int)≤4 by decide)⟩
 ·rw [if_neg h1] at h ⊢;obtain ⟨Q,hQ⟩:∃ Q:CS,Q={ mTail s with ents:=(mTail s).ents++[(Sc.bs nm,(⟨0,(mTail s).data,1,false⟩:Th))] }:=⟨_,rfl⟩
  rw [← hQ] at h ⊢;by_cases h4:Q.e=0∧Q.data=32000
  ·rw [if_pos h4] at h;exact absurd (must_e0 h) (stop_e 4 (mHere s) Q (by decide))
  rw [if_neg h4] at h ⊢;obtain ⟨c1,c2,c3⟩:=must_o h;rw [c2];subst hQ;refine ⟨⟨n1,rfl,?_,?_,xt_same rfl rfl⟩,ht.same rfl rfl rfl ?_ (fun e he=>?_)⟩
  ·show s.data≤s.data+1
   omega
  ·show s.toks.tail.tail.length≤_
   simp only [List.length_tail];omega
  ·show s.data≤s.data+1
   omega
  ·have he:e∈s.ents++[(Sc.bs nm,(⟨0,s.data,1,false⟩:Th))]:=he;rcases List.mem_append.1 he with he | he
   ·exact .inl he
   ·right;intro X;rw [List.mem_singleton.1 he];exact kg _ _ _ hd (by show s.data<s.data+1;omega)
structure Ow (a b:Int) (s s':CS):Prop where
 e:s.e=0
 tk:s'.taken=s.taken
 ln:s'.toks.length≤s.toks.length
 co:s'.code=s.code
 pa:s'.pats=s.pats
 xp:s'.exps=s.exps
 da:s'.data=s.data
 bg:s'.begs=s.begs
 en:∃ l,s'.ents=s.ents++l∧∀ e∈l,e.2.kind=2∧a≤e.2.pl∧e.2.pl<b
 sz:a≤b∧(b≤22∨b=a)
theorem Ow.tr {a b c:Int} {s s1 s2:CS} (h:Ow a b s s1) (g:Ow b c s1 s2):Ow a c s s2:=by
 obtain ⟨l,l1,l2⟩:=h.en;obtain ⟨m,m1,m2⟩:=g.en;have h1:=h.sz;have g1:=g.sz;refine ⟨h.e,g.tk.trans h.tk,Nat.le_trans g.ln h.ln,g.co.trans h.co,g.pa.trans h.pa,g.xp.trans h.xp,g.da.trans h.da,g.bg.trans h.bg,⟨l++m,by rw [m1,l1,List.append_assoc],fun e he=>?_⟩,by omega⟩;rcases List.mem_append.1 he with he | he
 ·have:=l2 e he;omega
 ·have:=m2 e he;omega
theorem ow_rf {a:Int} {s:CS} (h:s.e=0):Ow a a s s:=⟨h,rfl,Nat.le_refl _,rfl,rfl,rfl,rfl,rfl,⟨[],by simp,fun e he=>by cases he⟩,Int.le_refl _,.inr rfl⟩
theorem ow_must {a:Int} {w:List UInt8} {s:CS} (h:(mMust w s).e=0):Ow a a s (mMust w s):=by
 obtain ⟨h1,h2,h3⟩:=must_o h;rw [h2];exact ⟨h1,rfl,tail_le s,rfl,rfl,rfl,rfl,rfl,⟨[],by simp [mTail],fun e he=>by cases he⟩,Int.le_refl _,.inr rfl⟩
theorem owns_o {n:List UInt8} {pl size:Int} {s:CS} (hs:size≤22) (h:(mOwns n pl size s).e=0):Ow size (size+1) s (mOwns n pl size s):=by
 unfold mOwns at h ⊢;dsimp only at h ⊢;by_cases h1:(mDefine n pl ⟨2,size,0,false⟩ s).e=0∧size-2=20
 ·rw [if_pos h1] at h;exact absurd h (stop_e _ _ _ (by decide))
 rw [if_neg h1] at h ⊢;obtain ⟨d1,d2⟩:=define_o h;rw [d2];refine ⟨d1,rfl,Nat.le_refl _,rfl,rfl,rfl,rfl,rfl,⟨_,rfl,fun e he=>?_⟩,by omega,.inl ?_⟩
 ·rw [List.mem_singleton.1 he];exact ⟨rfl,Int.le_refl _,by show size<size+1;omega⟩
 ·have:¬ size-2=20:=fun h2=>h1 ⟨h,h2⟩
  omega
theorem vars_o:∀ (m:Nat) (size:Int) (s:CS),size≤22→(mVars m size s).2.e=0→Ow size (mVars m size s).1 s (mVars m size s).2
 | 0,size,s,hs,h=>ow_rf h
 | m+1,size,s,hs,h=>by
  unfold mVars at h ⊢;by_cases h0:s.e=0
  ·rw [if_pos h0] at h ⊢;dsimp only at h ⊢
   have h1:(mOwns (mName s).1 (mHere s) size (mName s).2).e=0:=by
    split at h
    ·have:=vars_e m _ _ h;exact this
    ·exact h
   have hn:(mName s).2.e=0:=owns_e h1;obtain ⟨n1,n2,n3⟩:=name_o hn;have hsn:(mName s).2=mTail s:=by rw [n2]
   have ho:=owns_o hs h1;rw [hsn] at ho;have ht:Ow size size s (mTail s):=⟨h0,rfl,tail_le s,rfl,rfl,rfl,rfl,rfl,⟨[],by simp [mTail],fun e he=>by cases he⟩,Int.le_refl _,.inr rfl⟩
   have ho2:=ht.tr ho;rw [hsn] at h ⊢;have hsz:=ho.sz;by_cases h2:mSees [44] (mOwns (mName s).1 (mHere s) size (mTail s))=true
   ·rw [if_pos h2] at h ⊢;have h3:=vars_o m (size+1) _ (by omega) h;have ht2:Ow (size+1) (size+1) (mOwns (mName s).1 (mHere s) size (mTail s)) (mTail (mOwns (mName s).1 (mHere s) size (mTail s))):=⟨h3.e,rfl,tail_le _,rfl,rfl,rfl,rfl,rfl,⟨[],by simp [mTail],fun e he=>by cases he⟩,Int.le_refl _,.inr rfl⟩
    exact (ho2.tr ht2).tr h3
   ·rw [if_neg h2] at h ⊢;exact ho2
  ·rw [if_neg h0] at h;exact absurd h h0
where
 vars_e:∀ (m:Nat) (size:Int) (s:CS),(mVars m size s).2.e=0→s.e=0
  | 0,size,s,h=>h
  | m+1,size,s,h=>by
   unfold mVars at h;by_cases h0:s.e=0
   ·exact h0
   ·rw [if_neg h0] at h;exact h
 owns_e {n:List UInt8} {pl size:Int} {s:CS} (h:(mOwns n pl size s).e=0):s.e=0:=by
  unfold mOwns at h;dsimp only at h;split at h
  ·exact absurd h (stop_e _ _ _ (by decide))
  ·exact (define_o h).1
theorem en_top {k s:Nat}:Rl.en k s ≠ .top:=fun h=>by cases h
theorem en_en1 {k S:Nat} (h:k≠1):∀ s,Rl.en k S ≠ .en 1 s:=fun s h2=>by cases h2;exact h rfl
theorem enters_o {S:Nat} (takes:Bool):∀ (m:Nat) (n:Nat) (s:CS),2≤n→n+m=S→Em S s (mEnters takes m (n:Int) s) (owR n S) (.bo S 0)
 | 0,n,s,hn,h=>by
  have:owR n S = .bo S 0:=by unfold owR;rw [if_pos (by omega)]
  rw [this];exact em_rf
 | m+1,n,s,hn,h=>by
  unfold mEnters;have hne:n≠S:=by omega
  have h1:owR n S = .ow n S:=by unfold owR;rw [if_neg hne]
  rw [h1];refine Em.tr (r1:=owR (n+1) S) (em_put (fun h=>(by cases h)) (fun s h=>(by cases h)) (show (13:Int)≠17 by decide) (show (13:Int)≠18 by decide) (fun rl hl=>?_)) (enters_o takes m (n+1) _ (by omega) (by omega));refine .own ?_ hn (by omega) hl;by_cases hc:takes=true∧(n:Int)=2
  ·rw [if_pos hc];exact .inr (.inl rfl)
  ·rw [if_neg hc];exact .inl rfl
theorem enters_keep (takes:Bool):∀ (m:Nat) (n:Int) (s:CS),(mEnters takes m n s).e=s.e∧(mEnters takes m n s).taken=s.taken∧(mEnters takes m n s).toks=s.toks∧(mEnters takes m n s).ents=s.ents∧(mEnters takes m n s).begs=s.begs∧(mEnters takes m n s).exps=s.exps
 | 0,n,s=>⟨rfl,rfl,rfl,rfl,rfl,rfl⟩
 | m+1,n,s=>by
  unfold mEnters;exact enters_keep takes m (n+1) _
theorem enter_o {S:Nat} (takes:Bool) (s:CS) (h2:2≤S) (h22:S≤22):Em S s (mEnter (S:Int) takes s) (.en 0 S) (.bo S 0):=by
 unfold mEnter;have e:((S:Int)-2).toNat=S-2:=by omega
 rw [e];have a0:∀ s,Em S s (mPut ⟨10,29,29,0,-(S:Int)⟩ s) (.en 0 S) (.en 1 S):=fun s=>em_put en_top (en_en1 (by decide)) (show (10:Int)≠17 by decide) (show (10:Int)≠18 by decide) (fun rl hl=>.en0 h2 h22 hl)
 have a1:∀ s,Em S s (mMark ⟨10,1,29,0,0⟩ 3 0 s) (.en 1 S) (.en 2 S):=fun s=>em_mark2 (fun RL H hT hl=>.en1 (List.mem_append_right _ List.mem_cons_self) hl)
 have a2:∀ s,Em S s (mPut ⟨14,1,7,0,32767⟩ s) (.en 2 S) (.en 3 S):=fun s=>em_put en_top (en_en1 (by decide)) (show (14:Int)≠17 by decide) (show (14:Int)≠18 by decide) (fun rl hl=>.en2 hl)
 have a3:∀ s,Em S s (mPut ⟨13,31,29,0,0⟩ s) (.en 3 S) (.en 4 S):=fun s=>em_put en_top (en_en1 (by decide)) (show (13:Int)≠17 by decide) (show (13:Int)≠18 by decide) (fun rl hl=>.en3 hl)
 have a4:∀ s,Em S s (mPut ⟨13,30,29,0,1⟩ s) (.en 4 S) (.en 5 S):=fun s=>em_put en_top (en_en1 (by decide)) (show (13:Int)≠17 by decide) (show (13:Int)≠18 by decide) (fun rl hl=>.en4 hl)
 have a5:∀ s,Em S s (mPut ⟨10,30,29,0,0⟩ s) (.en 5 S) (owR 2 S):=fun s=>em_put en_top (en_en1 (by decide)) (show (10:Int)≠17 by decide) (show (10:Int)≠18 by decide) (fun rl hl=>.en5 hl)
 exact ((((((a0 _).tr (a1 _)).tr (a2 _)).tr (a3 _)).tr (a4 _)).tr (a5 _)).tr (enters_o takes (S-2) 2 _ (Nat.le_refl _) (by omega))
theorem enter_keep (size:Int) (takes:Bool) (s:CS):(mEnter size takes s).e=s.e∧(mEnter size takes s).taken=s.taken∧(mEnter size takes s).toks=s.toks∧(mEnter size takes s).ents=s.ents∧(mEnter size takes s).begs=s.begs∧(mEnter size takes s).exps=s.exps:=by
 unfold mEnter;exact enters_keep _ _ _ _
theorem le_top {k s:Nat}:Rl.le k s ≠ .top:=fun h=>by cases h
theorem le_en1 {k S:Nat}:∀ s,Rl.le k S ≠ .en 1 s:=fun s h2=>by cases h2
def leave3 (size:Int) (s:CS):CS:=mPut ⟨12,30,30,0,1⟩ (mPut ⟨12,31,30,0,0⟩ (mPut ⟨10,29,30,0,size⟩ s))
theorem leave3_o {S:Nat} (s:CS) (h2:2≤S) (h22:S≤22):Em S s (leave3 (S:Int) s) (.bo S 0) (.le 3 S):=by
 unfold leave3;have a0:∀ s,Em S s (mPut ⟨10,29,30,0,(S:Int)⟩ s) (.bo S 0) (.le 1 S):=fun s=>em_put bo_top bo_en1 (show (10:Int)≠17 by decide) (show (10:Int)≠18 by decide) (fun rl hl=>.lea h2 h22 hl)
 have a1:∀ s,Em S s (mPut ⟨12,31,30,0,0⟩ s) (.le 1 S) (.le 2 S):=fun s=>em_put le_top le_en1 (show (12:Int)≠17 by decide) (show (12:Int)≠18 by decide) (fun rl hl=>.le1 hl)
 have a2:∀ s,Em S s (mPut ⟨12,30,30,0,1⟩ s) (.le 2 S) (.le 3 S):=fun s=>em_put le_top le_en1 (show (12:Int)≠17 by decide) (show (12:Int)≠18 by decide) (fun rl hl=>.le2 hl)
 exact ((a0 _).tr (a1 _)).tr (a2 _)
theorem leave_eq (size:Int) (s:CS):mLeave size s=mPut ⟨19,31,0,0,0⟩ (leave3 size s):=rfl
theorem look_pre {RL RL2:List Rl} (h:RL <+: RL2) {t:Int} {ρ:Rl} (hl:lookR RL t=some ρ):lookR RL2 t=some ρ:=by
 obtain ⟨X,rfl⟩:=h;exact look_app hl
def headS (s:CS):CS:=
 let pl:=mHere s
 let a:=mName s
 let here:=(a.2.code.length:Int)
 let p:=mParam (mFresh a.1 pl (a.2.exps.length:Int) a.2)
 let s1:=mDefine a.1 pl ⟨3,here,0,p.1.2.2⟩ p.2
 mOpen (mMust [59] { s1 with exps:=s1.exps++[⟨Sc.bs a.1,here⟩] })
def headT (s:CS):Bool:=(mParam (mFresh (mName s).1 (mHere s) ((mName s).2.exps.length:Int) (mName s).2)).1.2.2
def ownNS (s:CS):Int×CS:=
 let p:=mParam (mFresh (mName s).1 (mHere s) ((mName s).2.exps.length:Int) (mName s).2)
 let s3:=if p.1.2.2 then mOwns p.1.1 p.1.2.1 2 (headS s) else headS s
 let size:Int:=if p.1.2.2 then 3 else 2
 if mSees [118,97,114] s3 then ((mVars (s3.toks.length) size (mTail s3)).1,mMust [59] (mVars (s3.toks.length) size (mTail s3)).2) else (size,s3)
theorem routine_eq (N:Nat) (s:CS):mRoutine N s=mClose (mLeave (ownNS s).1 (mMust [59] (mMust [101,110,100] (mStmts N (mEnter (ownNS s).1 (headT s) (mMust [98,101,103,105,110] (ownNS s).2)))))):=rfl
theorem head_o {s:CS} (h:(headS s).e=0):s.e=0∧∃ (l:List (Sc.Tk×Nat)) (nm:List UInt8) (k:Bool),l.length≤s.toks.length∧headS s={ s with toks:=l,ents:=s.ents++[(Sc.bs nm,(⟨3,(s.code.length:Int),0,k⟩:Th))],exps:=s.exps++[⟨Sc.bs nm,(s.code.length:Int)⟩],begs:=s.begs++[s.ents.length+1] }:=by
 unfold headS at h ⊢;dsimp only at h ⊢;have h1:(mMust [59] { mDefine (mName s).1 (mHere s) ⟨3,((mName s).2.code.length:Int),0,(mParam (mFresh (mName s).1 (mHere s) ((mName s).2.exps.length:Int) (mName s).2)).1.2.2⟩ (mParam (mFresh (mName s).1 (mHere s) ((mName s).2.exps.length:Int) (mName s).2)).2 with exps:=(mDefine (mName s).1 (mHere s) ⟨3,((mName s).2.code.length:Int),0,(mParam (mFresh (mName s).1 (mHere s) ((mName s).2.exps.length:Int) (mName s).2)).1.2.2⟩ (mParam (mFresh (mName s).1 (mHere s) ((mName s).2.exps.length:Int) (mName s).2)).2).exps++[⟨Sc.bs (mName s).1,((mName s).2.code.length:Int)⟩] }).e=0:=h;obtain ⟨m1,m2,m3⟩:=must_o h1;have m1:(mDefine (mName s).1 (mHere s) ⟨3,((mName s).2.code.length:Int),0,(mParam (mFresh (mName s).1 (mHere s) ((mName s).2.exps.length:Int) (mName s).2)).1.2.2⟩ (mParam (mFresh (mName s).1 (mHere s) ((mName s).2.exps.length:Int) (mName s).2)).2).e=0:=m1;obtain ⟨d1,d2⟩:=define_o m1;obtain ⟨p1,l,p2,p3⟩:=param_o d1;obtain ⟨f1,f2⟩:=fresh_o p1;obtain ⟨n1,n2,n3⟩:=name_o f1;have hsn:(mName s).2=mTail s:=by rw [n2]
 have htl:=tail_le s;refine ⟨n1,l.tail,(mName s).1,(mParam (mFresh (mName s).1 (mHere s) ((mName s).2.exps.length:Int) (mName s).2)).1.2.2,?_,?_⟩
 ·rw [f2,hsn] at p3;rw [List.length_tail];omega
 ·rw [m2,d2,p2,f2,hsn];show mOpen _=_
  unfold mOpen mTail;simp
theorem own_o {s:CS} (h:(ownNS s).2.e=0):(headS s).e=0∧Ow 2 (ownNS s).1 (headS s) (ownNS s).2:=by
 unfold ownNS at h ⊢;dsimp only at h ⊢;generalize mParam (mFresh (mName s).1 (mHere s) ((mName s).2.exps.length:Int) (mName s).2)=p at *
 have hA:∀ (h3:(if p.1.2.2=true then mOwns p.1.1 p.1.2.1 2 (headS s) else headS s).e=0),(headS s).e=0∧Ow 2 (if p.1.2.2=true then 3 else 2) (headS s) (if p.1.2.2=true then mOwns p.1.1 p.1.2.1 2 (headS s) else headS s):=by
  intro h3;by_cases hp:p.1.2.2=true
  ·rw [if_pos hp] at h3;rw [if_pos hp,if_pos hp];exact ⟨vars_o.owns_e h3,owns_o (by decide) h3⟩
  ·rw [if_neg hp] at h3;rw [if_neg hp,if_neg hp];exact ⟨h3,ow_rf h3⟩
 have hs22:(if p.1.2.2=true then (3:Int) else 2)≤22:=by split <;> decide
 generalize (if p.1.2.2=true then mOwns p.1.1 p.1.2.1 2 (headS s) else headS s)=s3 at *;generalize (if p.1.2.2=true then (3:Int) else 2)=size at *;by_cases hv:mSees [118,97,114] s3=true
 ·rw [if_pos hv] at h ⊢;dsimp only at h ⊢;have h1:=must_e0 h;have h2:(mTail s3).e=0:=vars_o.vars_e _ _ _ h1;obtain ⟨g1,g2⟩:=hA h2;have ht:Ow size size s3 (mTail s3):=⟨h2,rfl,tail_le s3,rfl,rfl,rfl,rfl,rfl,⟨[],by simp [mTail],fun e he=>by cases he⟩,Int.le_refl _,.inr rfl⟩
  exact ⟨g1,((g2.tr ht).tr (vars_o _ _ _ hs22 h1)).tr (ow_must h)⟩
 ·rw [if_neg hv] at h ⊢;exact hA h
theorem close_at {q:CS} {B:List Nat} {n:Nat} (h:q.begs=B++[n]):mClose q={ q with ents:=q.ents.take n,begs:=B }:=by
 unfold mClose;rw [if_neg (by rw [h];simp),h];simp
theorem routine_o {N:Nat} {s:CS} {RS:List Rl} {H:List Nat} (ht:TyD s RS H) (hn:s.toks.length<N) (htk:s.taken=0) (h:(mRoutine N s).e=0):Dl s (mRoutine N s)∧∃ RS',RS <+: RS'∧TyD (mRoutine N s) RS' H:=by
 rw [routine_eq] at h ⊢;have hce:∀ q:CS,(mClose q).e=q.e:=fun q=>by unfold mClose;split <;> rfl
 rw [hce,leave_eq] at h;have h1:(mMust [59] (mMust [101,110,100] (mStmts N (mEnter (ownNS s).1 (headT s) (mMust [98,101,103,105,110] (ownNS s).2))))).e=0:=h;obtain ⟨a1,a2,a3⟩:=must_o h1;obtain ⟨b1,b2,b3⟩:=must_o a1;have c1:=ers_stmts N _ b1;rw [(enter_keep _ _ _).1] at c1;obtain ⟨d1,d2,d3⟩:=must_o c1;obtain ⟨o1,o2⟩:=own_o d1;obtain ⟨e1,l,nm,kt,e2,e3⟩:=head_o o1;have o3:=o2.tr (ow_must c1);have hsz:=o3.sz;obtain ⟨S,hS⟩:∃ S:Nat,(ownNS s).1=(S:Int):=⟨(ownNS s).1.toNat,by omega⟩
 rw [hS] at hsz o3 a1 a2 b1 b2 h1 ⊢;generalize headT s=kk at *;generalize mMust [98,101,103,105,110] (ownNS s).2=qv at *;obtain ⟨ow,ow1,ow2⟩:=o3.en;have hco:qv.code=s.code:=by rw [o3.co,e3]
 have hpa:qv.pats=s.pats:=by rw [o3.pa,e3]
 have hxp:qv.exps=s.exps++[⟨Sc.bs nm,(s.code.length:Int)⟩]:=by rw [o3.xp,e3]
 have hda:qv.data=s.data:=by rw [o3.da,e3]
 have hbg:qv.begs=s.begs++[s.ents.length+1]:=by rw [o3.bg,e3]
 have hen:qv.ents=(s.ents++[(Sc.bs nm,(⟨3,(s.code.length:Int),0,kt⟩:Th))])++ow:=by rw [ow1,e3]
 have hqt:qv.taken=0:=by rw [o3.tk,e3];exact htk
 have hql:qv.toks.length≤s.toks.length:=by
  have:=o3.ln;rw [e3] at this;exact Nat.le_trans this e2
 have hlenRS:RS.length=s.code.length:=by have:=(ht noR).len;simp at this;exact this
 have hlk:lookR (RS++[.en 0 S]) (s.code.length:Int)=some (.en 0 S):=by
  rw [lookR_nat,List.getElem?_append_right (by omega),hlenRS,Nat.sub_self];rfl
 have hlkp:∀ t s2,lookR (RS++[noR]) t=some (.en 0 s2)→lookR RS t=some (.en 0 s2):=fun t s2 h=>look_noR h (by intro h;cases h)
 have hx:=ht (.en 0 S)
 have hT:TyS S qv (RS++[.en 0 S]) H:=by
  refine ⟨by rw [hco];exact hx.len,?_,by rw [hpa];exact hx.so,by rw [hpa,hco];exact hx.pb,fun e he=>?_,fun x hxx=>?_⟩
  ·rw [hco,hpa,hda];exact hx.ok
  ·rw [hen] at he;rw [hda];rcases List.mem_append.1 he with he | he
   ·rcases List.mem_append.1 he with he | he
    ·exact (hx.ent e he).mono (by omega) (Int.le_refl _) (fun _ _ h=>h)
    ·rw [List.mem_singleton.1 he];exact ⟨fun h=>(by cases h),fun h=>(by cases h),fun h=>(by cases h),fun _=>⟨S,hlk⟩,(show (0:Int)≤3 by decide),(show (3:Int)≤4 by decide)⟩
   ·obtain ⟨k1,k2,k3⟩:=ow2 e he;refine ⟨fun h=>(by omega),fun h=>(by omega),fun _=>⟨k2,k3⟩,fun h=>(by omega),by omega,by omega⟩
  ·rw [hxp] at hxx;rcases List.mem_append.1 hxx with hxx | hxx
   ·exact hx.xp x hxx
   ·rw [List.mem_singleton.1 hxx];exact ⟨S,hlk⟩
 have hl0:(RS++[Rl.en 0 S])[qv.code.length]? = some (.en 0 S):=by
  rw [hco,List.getElem?_append_right (by omega),hlenRS,Nat.sub_self];rfl
 obtain ⟨k1,k2,k3,k4,k5,k6⟩:=enter_keep (S:Int) kk qv;have hst:=stmts_o N S (mEnter (S:Int) kk qv) (by rw [k3];omega) (by rw [k2];exact hqt) b1;have hbst:(mStmts N (mEnter (S:Int) kk qv)).begs=qv.begs:=by rw [(ex_stmts N _).bg,k5]
 have hE:=((enter_o kk qv (by omega) (by omega)).tr hst.em).tr (((em_tail _).tr (em_tail _)).tr (leave3_o (mTail (mTail (mStmts N (mEnter (S:Int) kk qv)))) (by omega) (by omega)));rw [b2] at a2;rw [b2,a2,leave_eq];generalize hq3:mTail (mTail (mStmts N (mEnter (S:Int) kk qv)))=q3 at *;have q3b:q3.begs=s.begs++[s.ents.length+1]:=by rw [← hq3];show (mStmts N _).begs=_;rw [hbst,hbg]
 have q3e:q3.ents=qv.ents:=by rw [← hq3];show (mStmts N _).ents=_;rw [hst.en,k4]
 have hed:(mEnter (S:Int) kk qv).data=qv.data:=enter_data _ _ _;have q3d:q3.data=s.data:=by rw [← hq3];show (mStmts N _).data=_;rw [hst.da,hed,hda]
 have q3t:q3.taken=0:=by rw [← hq3];exact hst.tk
 have q3l:q3.toks.length≤s.toks.length:=by
  rw [← hq3];have h7:=hst.ln;rw [k3] at h7;show (mStmts N _).toks.tail.tail.length≤_
  rw [List.length_tail,List.length_tail];omega
 obtain ⟨hxt,hE⟩:=hE;obtain ⟨RL,r1,r2,r3⟩:=hE _ H hT hl0;have hclose:=close_at (q:=mPut ⟨19,31,0,0,0⟩ (leave3 (S:Int) q3)) (B:=s.begs) (n:=s.ents.length+1) q3b;rw [hclose]
 have htake:(mPut ⟨19,31,0,0,0⟩ (leave3 (S:Int) q3)).ents.take (s.ents.length+1)=s.ents++[(Sc.bs nm,(⟨3,(s.code.length:Int),0,kt⟩:Th))]:=by
  show q3.ents.take _=_
  rw [q3e,hen,List.take_append_of_le_length (by simp),List.take_of_length_le (by simp)]
 rw [htake];refine ⟨⟨e1,?_,?_,q3l,?_⟩,RL,(List.prefix_append _ _).trans r1,fun X=>?_⟩
 ·show q3.taken=s.taken
  rw [q3t,htk]
 ·show s.data≤q3.data
  rw [q3d];exact Int.le_refl _
 ·have h8:Xt s qv:=xt_same hco hpa;have h9:=(h8.tr hxt).tr (xt_put ⟨19,31,0,0,0⟩ _);exact h9
 ·have t1:=r2.put (i:=⟨19,31,0,0,0⟩) (r':=X) (ps:=[]) r3 (fun q hq=>by cases hq) (by simp) (.inr (.pl (fun q hq he=>by
   rw [List.append_nil] at hq;have:=(r2.pb q hq).2;omega) le_top le_en1 (show (19:Int)≠17 by decide) (show (19:Int)≠18 by decide) .le3))
  rw [List.append_nil] at t1;refine ⟨t1.len,t1.ok,t1.so,t1.pb,fun e he=>?_,t1.xp⟩;have he:e∈s.ents++[(Sc.bs nm,(⟨3,(s.code.length:Int),0,kt⟩:Th))]:=he;show EntOk 0 q3.data (RL++[X]) e.2
  rw [q3d];rcases List.mem_append.1 he with he | he
  ·have h5:=(ht noR).ent e he
   exact ⟨h5.g,h5.l,h5.o,fun h0=>by
    obtain ⟨s2,h6⟩:=h5.p h0;exact ⟨s2,look_app (look_pre ((List.prefix_append _ _).trans r1) (hlkp _ _ h6))⟩,h5.k⟩
  ·rw [List.mem_singleton.1 he];exact ⟨fun h=>(by cases h),fun h=>(by cases h),fun h=>(by cases h),fun _=>⟨S,look_app (look_pre r1 hlk)⟩,(show (0:Int)≤3 by decide),(show (3:Int)≤4 by decide)⟩
theorem decls_o (N:Nat):∀ (m:Nat) (s:CS) (RS:List Rl) (H:List Nat),TyD s RS H→s.toks.length<N→s.taken=0→0≤s.data→(mDecls N m s).e=0→Dl s (mDecls N m s)∧∃ RS',RS <+: RS'∧TyD (mDecls N m s) RS' H
 | 0,s,RS,H,ht,_,_,_,h=>⟨⟨h,rfl,Int.le_refl _,Nat.le_refl _,xt_same rfl rfl⟩,RS,List.prefix_refl _,ht⟩
 | m+1,s,RS,H,ht,hn,htk,hd,h=>by
  have htl:=tail_le s
  have hde:∀ q,(mDecls N m q).e=0→q.e=0:=fun q hq=>by
   cases m with
   | zero=>exact hq
   | succ m=>
    unfold mDecls at hq;by_cases h0:q.e=0
    ·exact h0
    ·rw [if_neg h0] at hq;exact hq
  have htT:TyD (mTail s) RS H:=ht.same rfl rfl rfl (Int.le_refl _) (fun e he=>.inl he);have hdT:s.e=0→Dl s (mTail s):=fun h0=>⟨h0,rfl,Int.le_refl _,htl,xt_same rfl rfl⟩
  unfold mDecls at h ⊢;by_cases h0:s.e=0
  ·rw [if_pos h0] at h ⊢;by_cases h1:mSees [118,97,114] s=true
   ·rw [if_pos h1] at h ⊢;obtain ⟨g1,g2⟩:=variable_o htT hd (hde _ h);have g3:=g1.ln;have g4:(mVariable (mTail s)).taken=s.taken:=g1.tk;have g5:s.data≤(mVariable (mTail s)).data:=g1.da;obtain ⟨k1,R2,k2,k3⟩:=decls_o N m _ RS H g2 (by omega) (by omega) (by omega) h;exact ⟨((hdT h0).tr g1).tr k1,R2,k2,k3⟩
   rw [if_neg h1] at h ⊢;by_cases h2:mSees [101,120,116,101,114,110,97,108] s=true
   ·rw [if_pos h2] at h ⊢;obtain ⟨g1,g2⟩:=imported_o htT (hde _ h);have g3:=g1.ln;have g4:(mImported (mTail s)).taken=s.taken:=g1.tk;have g5:s.data≤(mImported (mTail s)).data:=g1.da;obtain ⟨k1,R2,k2,k3⟩:=decls_o N m _ RS H g2 (by omega) (by omega) (by omega) h;exact ⟨((hdT h0).tr g1).tr k1,R2,k2,k3⟩
   rw [if_neg h2] at h ⊢;by_cases h3:mSees [112,114,111,99,101,100,117,114,101] s=true
   ·rw [if_pos h3] at h ⊢;obtain ⟨g1,R1,r1,g2⟩:=routine_o htT (by omega) htk (hde _ h);have g3:=g1.ln;have g4:(mRoutine N (mTail s)).taken=s.taken:=g1.tk;have g5:s.data≤(mRoutine N (mTail s)).data:=g1.da;obtain ⟨k1,R2,k2,k3⟩:=decls_o N m _ R1 H g2 (by omega) (by omega) (by omega) h;exact ⟨((hdT h0).tr g1).tr k1,R2,r1.trans k2,k3⟩
   rw [if_neg h3] at h ⊢;exact ⟨⟨h,rfl,Int.le_refl _,Nat.le_refl _,xt_same rfl rfl⟩,RS,List.prefix_refl _,ht⟩
  ·rw [if_neg h0] at h;exact absurd h h0
structure TyOb (code:List In) (data:Int) (exps:List Sy) (pats:List Pa) (RS:List Rl):Prop where
 len:RS.length=code.length
 ok:∀ (p:Nat) i,code[p]? = some i→∃ r,RS[p]? = some r∧OkO data (lookR RS) pats (p:Int) r i
 so:pats.Pairwise (fun a b=>a.pl<b.pl)
 pb:∀ q∈pats,0≤q.pl∧q.pl<(code.length:Int)
 xp:∀ x∈exps,∃ s2,lookR RS x.pl=some (.en 0 s2)
theorem TyD.ob {s:CS} {RS:List Rl} (h:TyD s RS []):TyOb s.code s.data s.exps s.pats RS:=by
 have hx:=h noR;have hl:RS.length=s.code.length:=by have:=hx.len;simp at this;exact this
 refine ⟨hl,fun p i hp=>?_,hx.so,hx.pb,fun x hxx=>?_⟩
 ·rcases hx.ok p i hp with h1 | ⟨r,h1,h2⟩
  ·cases h1
  ·have hpl:=(List.getElem?_eq_some_iff.1 hp).1;rw [List.getElem?_append_left (by omega)] at h1;exact ⟨r,h1,h2.mono (Int.le_refl _) (fun t ρ ht hn=>look_noR ht hn) (fun _ h=>h) (fun _ h _=>h)⟩
 ·obtain ⟨s2,h1⟩:=hx.xp x hxx;exact ⟨s2,look_noR h1 (by intro h;cases h)⟩
theorem program_o {N:Nat} {toks:List (Sc.Tk×Nat)} {en:Int} (hn:toks.length<N) (h:(mProgram N (cs0 toks en)).e=0):∃ RS,TyOb (mProgram N (cs0 toks en)).code (mProgram N (cs0 toks en)).data (mProgram N (cs0 toks en)).exps (mProgram N (cs0 toks en)).pats RS∧(mSees [112,114,111,103,114,97,109] (cs0 toks en)=true→RS[0]? = some .go):=by
 unfold mProgram at h ⊢;dsimp only at h ⊢;by_cases hm:mSees [112,114,111,103,114,97,109] (cs0 toks en)=true
 ·simp only [hm,if_true] at h ⊢;generalize hs3:mJump ⟨17,0,0,0,0⟩ (mOpen (mMust [59] { (mName (mTail (cs0 toks en))).2 with name:=Sc.bs (mName (mTail (cs0 toks en))).1 }))=s3 at *
  have hfin:∀ q:CS,(if q.e=0∧q.toks≠[] then mStop 2 (mHere q) q else q).e=0→q.e=0∧(if q.e=0∧q.toks≠[] then mStop 2 (mHere q) q else q)=q:=fun q hq=>by
   by_cases hc:q.e=0∧q.toks≠[]
   ·rw [if_pos hc] at hq;exact absurd hq (stop_e _ _ _ (by decide))
   ·rw [if_neg hc] at hq ⊢;exact ⟨hq,rfl⟩
  obtain ⟨f1,f2⟩:=hfin _ h;rw [f2];obtain ⟨a1,a2,a3⟩:=must_o f1;obtain ⟨b1,b2,b3⟩:=must_o a1
  have hlen0:(mOpen (mMust [59] { (mName (mTail (cs0 toks en))).2 with name:=Sc.bs (mName (mTail (cs0 toks en))).1 })).code=[]:=by
   show (mMust [59] _).code=[]
   unfold mMust mName;split <;> split <;> rfl
  rw [hlen0] at a1 a2 b1 b2 ⊢;have c1:(mStmts N (mMark ⟨10,29,0,0,0⟩ 4 0 (mLand (([]:List In).length:Int) (mMust [98,101,103,105,110] (mDecls N s3.toks.length s3))))).e=0:=b1;have c2:=ers_stmts N _ c1;have c2:(mLand (([]:List In).length:Int) (mMust [98,101,103,105,110] (mDecls N s3.toks.length s3))).e=0:=c2;rw [(land_e _ _).1] at c2;obtain ⟨d1,d2,d3⟩:=must_o c2
  have hde:s3.e=0:=by
   generalize s3.toks.length=m at d1;cases m with
   | zero=>exact d1
   | succ m=>
    unfold mDecls at d1;by_cases h0:s3.e=0
    ·exact h0
    ·rw [if_neg h0] at d1;exact d1
  have hs3e:(mMust [59] { (mName (mTail (cs0 toks en))).2 with name:=Sc.bs (mName (mTail (cs0 toks en))).1 }).e=0:=by rw [← hs3] at hde;exact hde
  obtain ⟨e1,e2,e3⟩:=must_o hs3e;obtain ⟨n1,n2,n3⟩:=name_o (s:=mTail (cs0 toks en)) e1;have hsn:(mName (mTail (cs0 toks en))).2=mTail (mTail (cs0 toks en)):=by rw [n2]
  rw [e2,hsn] at hs3
  have h30:s3.code=[⟨17,0,0,0,0⟩]∧s3.pats=[⟨0,0,0⟩]∧s3.ents=[]∧s3.exps=[]∧s3.data=0∧s3.taken=0∧s3.toks.length≤toks.length:=by
   rw [← hs3];refine ⟨rfl,rfl,rfl,rfl,rfl,rfl,?_⟩;show toks.tail.tail.tail.length≤_
   simp only [List.length_tail];omega
  obtain ⟨q1,q2,q3,q4,q5,q6,q7⟩:=h30
  have hT3:TyD s3 [.go] [0]:=fun X=>by
   refine ⟨by rw [q1];rfl,fun p i hp=>?_,by rw [q2];exact List.pairwise_singleton _ _,fun q hq=>?_,fun e he=>(by rw [q3] at he;cases he),fun x hx=>(by rw [q4] at hx;cases hx)⟩
   ·left;have:=(List.getElem?_eq_some_iff.1 hp).1;rw [q1] at this;simp at this;rw [this];exact List.mem_cons_self
   ·rw [q2] at hq;rw [List.mem_singleton.1 hq,q1];exact ⟨Int.le_refl 0,by decide⟩
  obtain ⟨g1,RS,r1,r2⟩:=decls_o N s3.toks.length s3 [.go] [0] hT3 (by omega) q6 (by rw [q5];exact Int.le_refl 0) d1;obtain ⟨⟨x1,ps,x2,x3⟩,_⟩:Xt s3 (mDecls N s3.toks.length s3)∧True:=⟨g1.xt,trivial⟩
  have g2:=g1.tk;have g3:=g1.ln;rw [d2] at c1 b1 b2 a1 a2 ⊢;generalize mDecls N s3.toks.length s3=s4 at *;have hget:(mTail s4).code[0]? = some ⟨17,0,0,0,0⟩:=pre_get x1 (by rw [q1];rfl);have hland:=land_at (s:=mTail s4) (p:=0) (j:=⟨17,0,0,0,((mTail s4).code.length:Int)⟩) hget rfl;have hz:(([]:List In).length:Int)=((0:Nat):Int):=rfl;rw [hz,hland] at c1 b1 b2 a1 a2 ⊢;have hlenRS:RS.length=s4.code.length:=by have:=(r2 noR).len;simp at this;exact this
  have hgo:RS[0]? = some .go:=preR_get r1 rfl;have hp0:0<s4.code.length:=(List.getElem?_eq_some_iff.1 hget).1
  have hT4:TyS 0 { mTail s4 with code:=(mTail s4).code.set 0 ⟨17,0,0,0,((mTail s4).code.length:Int)⟩ } (RS++[.top]) []:=by
   have h4:TyS 0 (mTail s4) (RS++[.top]) [0]:=(r2.same (s':=mTail s4) rfl rfl rfl (Int.le_refl _) (fun e he=>.inl he)) .top;refine h4.fix hp0 (by rw [List.getElem?_append_left (by omega)];exact hgo) (.go ?_ ?_)
   ·show (⟨((0:Nat):Int),0,0⟩:Pa)∈s4.pats
    rw [x2,q2];simp
   ·show lookR _ (s4.code.length:Int)=_
    rw [lookR_nat,List.getElem?_append_right (by omega),hlenRS,Nat.sub_self];rfl
  generalize hs5:({ mTail s4 with code:=(mTail s4).code.set 0 ⟨17,0,0,0,((mTail s4).code.length:Int)⟩ }:CS)=s5 at *
  have s5l:s5.code.length=RS.length:=by
   rw [← hs5];show (s4.code.set _ _).length=_
   rw [List.length_set];exact hlenRS.symm
  have s5t:s5.taken=0:=by rw [← hs5];show s4.taken=0;rw [g2,q6]
  have s5k:s5.toks.length<N:=by
   rw [← hs5];have:=tail_le s4;show (mTail s4).toks.length<N
   omega
  have hE1:Em 0 s5 (mMark ⟨10,29,0,0,0⟩ 4 0 s5) .top (.bo 0 0):=em_mark2 (fun RL H hT hl=>.top (List.mem_append_right _ List.mem_cons_self) hl);have hst:=stmts_o N 0 (mMark ⟨10,29,0,0,0⟩ 4 0 s5) s5k s5t c1;obtain ⟨_,hE⟩:=hE1.tr hst.em;obtain ⟨RL,l1,l2,l3⟩:=hE _ [] hT4 (by rw [s5l,List.getElem?_append_right (Nat.le_refl _),Nat.sub_self];rfl);generalize mStmts N (mMark ⟨10,29,0,0,0⟩ 4 0 s5)=s6 at *
  have hTf:TyD (mPut ⟨20,0,0,0,0⟩ s6) RL []:=fun X=>by
   have t1:=l2.put (i:=⟨20,0,0,0,0⟩) (r':=X) (ps:=[]) l3 (fun q hq=>by cases hq) (by simp) (.inr (.pl (fun q hq he=>by
    rw [List.append_nil] at hq;have:=(l2.pb q hq).2;omega) bo_top bo_en1 (show (20:Int)≠17 by decide) (show (20:Int)≠18 by decide) .halt))
   rw [List.append_nil] at t1;exact t1
  rw [a2,b2];exact ⟨RL,hTf.ob,fun _=>preR_get ((List.prefix_append _ _).trans l1) hgo⟩
 ·have hm:mSees [112,114,111,103,114,97,109] (cs0 toks en)=false:=by simpa using hm
  simp only [hm,Bool.false_eq_true,if_false] at h ⊢
  have hfin:∀ q:CS,(if q.e=0∧q.toks≠[] then mStop 2 (mHere q) q else q).e=0→q.e=0∧(if q.e=0∧q.toks≠[] then mStop 2 (mHere q) q else q)=q:=fun q hq=>by
   by_cases hc:q.e=0∧q.toks≠[]
   ·rw [if_pos hc] at hq;exact absurd hq (stop_e _ _ _ (by decide))
   ·rw [if_neg hc] at hq ⊢;exact ⟨hq,rfl⟩
  obtain ⟨f1,f2⟩:=hfin _ h;rw [f2];obtain ⟨a1,a2,a3⟩:=must_o f1;obtain ⟨b1,b2,b3⟩:=must_o a1;generalize hs3:mOpen (mMust [59] { (mName (mMust [109,111,100,117,108,101] (cs0 toks en))).2 with name:=Sc.bs (mName (mMust [109,111,100,117,108,101] (cs0 toks en))).1 })=s3 at *
  have hde:s3.e=0:=by
   have d1:=b1;generalize s3.toks.length=m at d1;cases m with
   | zero=>exact d1
   | succ m=>
    unfold mDecls at d1;by_cases h0:s3.e=0
    ·exact h0
    ·rw [if_neg h0] at d1;exact d1
  have hs3e:(mMust [59] { (mName (mMust [109,111,100,117,108,101] (cs0 toks en))).2 with name:=Sc.bs (mName (mMust [109,111,100,117,108,101] (cs0 toks en))).1 }).e=0:=by rw [← hs3] at hde;exact hde
  obtain ⟨e1,e2,e3⟩:=must_o hs3e;obtain ⟨n1,n2,n3⟩:=name_o (s:=mMust [109,111,100,117,108,101] (cs0 toks en)) e1;obtain ⟨k1,k2,k3⟩:=must_o n1;have hsn:(mName (mMust [109,111,100,117,108,101] (cs0 toks en))).2=mTail (mTail (cs0 toks en)):=by rw [n2,k2]
  rw [e2,hsn] at hs3
  have h30:s3.code=[]∧s3.pats=[]∧s3.ents=[]∧s3.exps=[]∧s3.data=0∧s3.taken=0∧s3.toks.length≤toks.length:=by
   rw [← hs3];refine ⟨rfl,rfl,rfl,rfl,rfl,rfl,?_⟩;show toks.tail.tail.tail.length≤_
   simp only [List.length_tail];omega
  obtain ⟨q1,q2,q3,q4,q5,q6,q7⟩:=h30
  have hT3:TyD s3 [] []:=fun X=>by
   refine ⟨by rw [q1];rfl,fun p i hp=>?_,by rw [q2];exact List.Pairwise.nil,fun q hq=>(by rw [q2] at hq;cases hq),fun e he=>(by rw [q3] at he;cases he),fun x hx=>(by rw [q4] at hx;cases hx)⟩;rw [q1] at hp;simp at hp
  obtain ⟨g1,RS,r1,r2⟩:=decls_o N s3.toks.length s3 [] [] hT3 (by omega) q6 (by rw [q5];exact Int.le_refl 0) b1;rw [a2,b2];exact ⟨RS,r2.ob,fun h=>by cases h⟩
theorem comp_ty {s:List UInt8} {o:Ob6} (h:compF s=(some o,0,0)):∃ RS,TyOb o.code o.data o.exps o.pats RS∧((∃ l pl e,Sc.scanD 0 s=(l,pl,e)∧mSees [112,114,111,103,114,97,109] (cs0 l (s.length:Int))=true)→RS[0]? = some .go):=by
 unfold compF at h;rcases hsc:Sc.scanD 0 s with ⟨l,pl,e⟩
 rw [hsc] at h;dsimp only at h;by_cases he:e≠0
 ·rw [if_pos he] at h;have:=congrArg Prod.fst h;cases this
 rw [if_neg he] at h;have hp:=program_o (N:=l.length+1) (toks:=l) (en:=(s.length:Int)) (by omega);generalize mProgram (l.length+1) (cs0 l (s.length:Int))=c at *;by_cases hb:c.e=0∧c.code.length>4096
 ·rw [if_pos hb,if_pos (stop_e _ _ _ (by decide))] at h;have:=congrArg Prod.fst h;cases this
 rw [if_neg hb] at h;by_cases hce:c.e≠0
 ·rw [if_pos hce] at h;have:=congrArg Prod.fst h;cases this
 rw [if_neg hce] at h;have ho:(⟨c.name,c.code,c.data,c.exps,c.imps,c.pats⟩:Ob6)=o:=Option.some.inj (congrArg Prod.fst h);obtain ⟨RS,h1,h2⟩:=hp (Classical.not_not.1 hce);rw [← ho];refine ⟨RS,h1,?_⟩;rintro ⟨l',pl',e',h3,h4⟩;obtain ⟨rfl,_⟩:=Prod.mk.inj h3;exact h2 h4
end Go.Proofs.YtkolmklfgbimoaaGreatDoor.Cm

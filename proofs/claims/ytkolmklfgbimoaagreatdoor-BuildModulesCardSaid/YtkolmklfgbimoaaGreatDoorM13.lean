/- Texts of the proof, in their order: Dmc, Dmd, Dmo, Dme, Dmp, Be5, Be2, Pi9, Pia, SxO, Ag1, Bd5, Nv1, Bd6, SxY, Bd7. -/
import Derived.Test.YtkolmklfgbimoaaGreatDoorM11
import Derived.Test.YtkolmklfgbimoaaGreatDoorM12
import Derived.Test.YtkolmklfgbimoaaGreatDoorM7
import Derived.Test.YtkolmklfgbimoaaGreatDoorM9
import Derived.Test.YtkolmklfgbimoaaGreatDoorM3
import Derived.Test.YtkolmklfgbimoaaGreatDoorM2
import Derived.SizedLaws
import Derived.Test.YtkolmklfgbimoaaGreatDoorM6
set_option linter.unusedVariables false
set_option linter.unusedSimpArgs false
set_option maxHeartbeats 16000000
set_option maxRecDepth 100000
namespace Go.Proofs.YtkolmklfgbimoaaGreatDoor
open Go
theorem ldP_nat (l:List Int) (x:Nat):ldP l (x:Int)=l[x]? := by unfold ldP;rw [if_neg (by omega),Int.toNat_natCast]
theorem w32_nat {x:Nat} (h:x≤1000000):w32 (x:Int)=(x:Int):=w32_id (by omega)
theorem ex_alu {i:In} (h:1≤i.op∧i.op≤11) (lk:Int) (s:Co):exI lk i s=((reckonQ i (rgX s i.b) (rgX s i.c)).2.1,if (reckonQ i (rgX s i.b) (rgX s i.c)).2.1=0∧(reckonQ i (rgX s i.b) (rgX s i.c)).2.2=true then wrX i.a (reckonQ i (rgX s i.b) (rgX s i.c)).1 s else s):=by
 unfold exI;rw [if_neg (by omega),if_neg (by omega),if_neg (by omega),if_neg (by omega),if_neg (by omega)]
theorem ex_add (lk:Int) (s:Co) (a b imm:Int):exI lk ⟨10,a,b,0,imm⟩ s=(0,wrX a (w32 (w32 (rgX s b)+imm)) s):=by
 rw [ex_alu (i:=⟨10,a,b,0,imm⟩) ⟨(by decide:(1:Int)≤10),(by decide:(10:Int)≤11)⟩];rfl
theorem ex_lw (lk:Int) (s:Co) (a b imm:Int) {x:Nat} {v:Int} (h:rgX s b+imm=(x:Int)) (hx:x≤1000000) (hv:s.mem[x]? = some v):exI lk ⟨12,a,b,0,imm⟩ s=(0,wrX a v s):=by
 unfold exI;dsimp only;rw [if_pos rfl,h,w32_nat hx,ldP_nat,hv]
theorem ex_sw (lk:Int) (s:Co) (a b imm:Int) {x:Nat} (h:rgX s b+imm=(x:Int)) (hx:x≤1000000) (hl:x<s.mem.length):exI lk ⟨13,a,b,0,imm⟩ s=(0,stX s x (rgX s a)):=by
 unfold exI;dsimp only;rw [if_neg (by decide),if_pos rfl,h,w32_nat hx,if_neg (by omega),Int.toNat_natCast];rfl
theorem ex_ck (lk:Int) (s:Co) (a b imm:Int):exI lk ⟨14,a,b,0,imm⟩ s=(if rgX s a<0∨imm≤rgX s a then (if b=0 then 5 else b) else 0,s):=by
 unfold exI;dsimp only;rw [if_neg (by decide),if_neg (by decide),if_pos rfl]
theorem BoT.wr {k:Qm} {s:Nat} {b:Int} {F:List Fr} {a c:Co} (h:BoT k s b F a c) {w u v:Int} (hw:numR w) (hb:b=0∨w≠8):BoT k s b F (wrX w u a) (wrX w v c):=by
 obtain ⟨n0,n1,n2,n3,n4,n5⟩:=numR_ne hw;refine ⟨h.sz,?_,?_,?_,?_,fun hb0=>?_⟩
 ·rw [rg_wr (by omega) (by decide) (.inr (by omega))];exact h.sa
 ·rw [rg_wr (by omega) (by decide) (.inr (by omega))];exact h.sc
 ·rw [rg_wr (by omega) (by decide) (.inr (by omega))];exact h.ba
 ·rw [rg_wr (by omega) (by decide) (.inr (by omega))];exact h.bc
 ·rcases hb with hb | hb
  ·exact absurd hb hb0
  ·rw [rg_wr (by omega) (by decide) (.inr (by omega))];exact h.bd hb0
theorem BoT.st {k:Qm} {s:Nat} {b:Int} {F:List Fr} {a c:Co} (h:BoT k s b F a c) (x y:Nat) (u v:Int):BoT k s b F (stX a x u) (stX c y v):=⟨h.sz,h.sa,h.sc,h.ba,h.bc,h.bd⟩
theorem BoT.zero {k:Qm} {s:Nat} {b:Int} {F:List Fr} {a c:Co} (h:BoT k s b F a c):BoT k s 0 F a c:=⟨h.sz,h.sa,h.sc,h.ba,h.bc,fun h=>absurd rfl h⟩
theorem szF_pos {F:List Fr} {n:Nat} (h:n<szF F):∃ y G,F=y::G:=by
 cases F with
 | nil=>simp [szF] at h
 | cons y G=>exact ⟨y,G,rfl⟩
theorem ow_end {k:Qm} {s ret:Nat} {F:List Fr} {a c:Co} (hc:Cor k a c F) (ht:EnT k 6 s F a c ret) (ba:rgX a 30=((topF k.N F-s:Nat):Int)) (bc:rgX c 30=((topF k.N F-s+k.d:Nat):Int)) (hn:∀ j,2≤j→j<s→a.mem[topF k.N F-s+j]? = c.mem[topF k.N F-s+j+k.d]?) :
  Cor k a c (⟨topF k.N F-s,s,ret⟩::F)∧RegT k (⟨topF k.N F-s,s,ret⟩::F) a c (.bo s 0):=by
 obtain ⟨hs1,hs2⟩:=ht.sz (by omega);have hroom:=ht.room (by omega);have hsa:=ht.sa;have hsc:=ht.sc;rw [if_neg (by omega)] at hsa hsc;refine ⟨⟨hc.oka,hc.okc,hc.la,hc.lc,hc.inp,hc.out,hc.dat,?_,hc.num⟩,?_⟩
 ·exact ⟨⟨by show topF k.N F-s+s=_;omega,by show k.D≤topF k.N F-s;omega,hs1,hs2,ht.rl⟩,⟨ht.m0a (by omega),ht.m0c (by omega),ht.m1a (by omega),ht.m1c (by omega)⟩,hn,hc.fr⟩
 ·refine ⟨rfl,?_,?_,ba,bc,fun h=>absurd rfl h⟩
  ·show rgX a 29=((topF k.N F-s:Nat):Int)
   rw [hsa];omega
  ·show rgX c 29=((topF k.N F-s+k.d:Nat):Int)
   rw [hsc];omega
theorem ow_next {k:Qm} {n s ret p:Nat} {F:List Fr} {a c:Co} (hrl:k.rl ((p:Nat):Int)=some (owR n s)) (hc:Cor k a c F) (ht:EnT k 6 s F a c ret) (ba:rgX a 30=((topF k.N F-s:Nat):Int)) (bc:rgX c 30=((topF k.N F-s+k.d:Nat):Int)) (hn:∀ j,2≤j→j<n→a.mem[topF k.N F-s+j]? = c.mem[topF k.N F-s+j+k.d]?):TyR k a p c:=by
 unfold owR at hrl;by_cases h:n=s
 ·subst h;rw [if_pos rfl] at hrl;obtain ⟨h1,h2⟩:=ow_end hc ht ba bc hn;exact ⟨_,_,hrl,h1,h2⟩
 ·rw [if_neg h] at hrl;exact ⟨_,F,hrl,hc,ret,ht,ba,bc,hn⟩
theorem goes_ge {i:In} (h1:15≤i.op) (h2:i.op≤19) (hg:goodI i=true):goesF i=true:=by
 unfold goesF;rw [hg,decide_eq_true ⟨h1,h2⟩];rfl
theorem w2 {x y:Int} (hx : -2147483648≤x∧x≤2147483647) (h : -2147483648≤x+y∧x+y≤2147483647):w32 (w32 x+y)=x+y:=by rw [w32_id hx,w32_id h]
theorem regT_le {k:Qm} {F:List Fr} {a c:Co} {n s:Nat} (h:n≠3):RegT k F a c (.le n s)↔∃ x G,F=x::G∧LeT k n s x G a c:=by
 unfold RegT;exact iff_of_eq (if_neg h)
theorem regT_le3 {k:Qm} {F:List Fr} {a c:Co} {s:Nat}:RegT k F a c (.le 3 s)↔∃ ret:Nat,rgX a 29=(topF k.N F:Int)∧rgX c 29=((topF k.N F+k.d:Nat):Int)∧rgX a 30=basF F∧rgX c 30=basG k.d F∧rgX a 31=(ret:Int)∧rgX c 31=k.f (ret:Int)∧retOk k ret (szF F):=by
 unfold RegT;exact iff_of_eq (if_pos rfl)
def Alike (k:Qm) (p:Nat) (x y:Int×Co):Prop:=(x.1=7∧0<k.d)∨(x.1=y.1∧(x.1=0→TyR k x.2 (p+1) y.2))
theorem alike_ok {k:Qm} {p:Nat} {a c:Co} (h:TyR k a (p+1) c):Alike k p (0,a) (0,c):=.inr ⟨rfl,fun _=>h⟩
theorem ty_line {k:Qm} (hD:k.D≤k.N) (hN:k.N+k.d≤32000) (hf:∀ x,inK32 (k.f x)) {a c:Co} {p:Nat} {i i2:In} {r:Rl} {F:List Fr} (hi:OkI (k.D:Int) (k.N:Int) k.rl (p:Int) r i) (hg:goodI i=true) (hgo:goesF i=false) (hc:Cor k a c F) (ht:RegT k F a c r)
  (h2:i2=if r = .top then ⟨10,29,0,0,((k.N+k.d:Nat):Int)⟩ else i):Alike k p (exI 0 i a) (exI 0 i2 c):=by
 have hp1:((p:Int)+1)=((p+1:Nat):Int):=by omega
 have hlow:=hc.fr.low hD;have htop:=hc.fr.top;have hz:rgX a 0=0∧rgX c 0=0:=⟨rgX_0 hc.oka,rgX_0 hc.okc⟩
 have hmem:∀ x,x<k.D→∃ v,a.mem[x]? = some v∧c.mem[x]? = some v:=fun x hx=>by
  have h:=hc.dat x hx;obtain ⟨v,hv⟩:∃ v,a.mem[x]? = some v:=⟨_,List.getElem?_eq_getElem (by rw [hc.la];omega)⟩
  exact ⟨v,hv,by rw [← h,hv]⟩
 cases hi with
 | go h=>exact absurd (goes_ge (show (15:Int)≤17 by decide) (show (17:Int)≤19 by decide) hg) (by rw [hgo];simp)
 | top h=>
  rw [if_pos rfl] at h2;subst h2;obtain ⟨rfl,h30,h30c⟩:=ht;rw [ex_add,ex_add,hz.1,hz.2];have e1:w32 (w32 0+(k.N:Int))=(k.N:Int):=by rw [w2 (by decide) (by omega),Int.zero_add]
  have e2:w32 (w32 0+((k.N+k.d:Nat):Int))=((k.N+k.d:Nat):Int):=by rw [w2 (by decide) (by omega),Int.zero_add]
  rw [e1,e2];refine alike_ok ⟨_,[],h,hc.wx (by decide) (by unfold numR;omega) ⟨by omega,by omega⟩ ⟨by omega,by omega⟩,rfl,?_,?_,?_,?_,fun h=>absurd rfl h⟩
  ·rw [rg_wr_self hc.oka.rl (by decide) (by decide)];rfl
  ·rw [rg_wr_self hc.okc.rl (by decide) (by decide)];rfl
  ·rw [rg_wr (by decide) (by decide) (.inr (by decide))];exact h30
  ·rw [rg_wr (by decide) (by decide) (.inr (by decide))];exact h30c
 | @alu s b op w x y hop hw hb hx hy h=>
  rw [if_neg (by simp)] at h2;subst h2;have ht:BoT k s b F a c:=ht;rw [ex_alu (by dsimp only;omega),ex_alu (by dsimp only;omega)];dsimp only;rw [← hc.val hx,← hc.val hy];have hin:=reckon_in ⟨op,w,x,y,0⟩ (rgX a x) (rgX a y);generalize reckonQ ⟨op,w,x,y,0⟩ (rgX a x) (rgX a y)=q at *;refine .inr ⟨rfl,fun _=>?_⟩;dsimp only;split
  ·exact ⟨_,F,h,hc.wr hw hin,ht.wr hw hb⟩
  ·exact ⟨_,F,h,hc,ht⟩
 | @num s b w n hw hb h=>
  rw [if_neg (by simp)] at h2;subst h2;have ht:BoT k s b F a c:=ht;rw [ex_add,ex_add,hz.1,hz.2];exact alike_ok ⟨_,F,h,hc.wr hw (w32_in _),ht.wr hw hb⟩
 | @ldl s b w n hw hb hn1 hn2 h=>
  rw [if_neg (by simp)] at h2;subst h2;have ht:BoT k s b F a c:=ht;obtain ⟨j,rfl⟩:∃ j:Nat,n=j:=⟨n.toNat,by omega⟩
  obtain ⟨y,G,rfl⟩:=szF_pos (F:=F) (n:=j) (by rw [← ht.sz];omega);have hys:s=y.s:=ht.sz;have hba:rgX a 30=(y.fp:Int):=ht.ba;have hbc:rgX c 30=((y.fp+k.d:Nat):Int):=ht.bc;have hfr:=hc.fr;obtain ⟨⟨f1,f2,f3,f3b,f4⟩,f5,f9,f10⟩:=hfr;have htop2:=f10.top;obtain ⟨v,hv⟩:∃ v,a.mem[y.fp+j]? = some v:=⟨_,List.getElem?_eq_getElem (by rw [hc.la];omega)⟩
  have hv2:c.mem[y.fp+j+k.d]? = some v:=by rw [← f9 j (by omega) (by omega),hv]
  rw [ex_lw (x:=y.fp+j) 0 a _ _ _ (by rw [hba];omega) (by omega) hv,ex_lw (x:=y.fp+j+k.d) 0 c _ _ _ (by rw [hbc];omega) (by omega) hv2];exact alike_ok ⟨_,_,h,hc.wr hw (hc.oka.mb v (List.mem_of_getElem? hv)),ht.wr hw hb⟩
 | @stl s b w n hw hn1 hn2 h=>
  rw [if_neg (by simp)] at h2;subst h2;have ht:BoT k s b F a c:=ht;obtain ⟨j,rfl⟩:∃ j:Nat,n=j:=⟨n.toNat,by omega⟩
  obtain ⟨y,G,rfl⟩:=szF_pos (F:=F) (n:=j) (by rw [← ht.sz];omega);have hys:s=y.s:=ht.sz;have hba:rgX a 30=(y.fp:Int):=ht.ba;have hbc:rgX c 30=((y.fp+k.d:Nat):Int):=ht.bc;obtain ⟨⟨f1,f2,f3,f3b,f4⟩,f5,f9,f10⟩:=hc.fr;have htop2:=f10.top;rw [ex_sw (x:=y.fp+j) 0 a _ _ _ (by rw [hba];omega) (by omega) (by rw [hc.la];omega),ex_sw (x:=y.fp+j+k.d) 0 c _ _ _ (by rw [hbc];omega) (by omega) (by rw [hc.lc];omega),← hc.val hw];exact alike_ok ⟨_,_,h,hc.stF (by omega) (by omega) (hc.oka.rg w),ht.st _ _ _ _⟩
 | @ldg s b w n hw hb hn1 hn2 h=>
  rw [if_neg (by simp)] at h2;subst h2;have ht:BoT k s b F a c:=ht;obtain ⟨j,rfl⟩:∃ j:Nat,n=j:=⟨n.toNat,by omega⟩
  obtain ⟨v,hv,hv2⟩:=hmem j (by omega);rw [ex_lw (x:=j) 0 a _ _ _ (by rw [hz.1];omega) (by omega) hv,ex_lw (x:=j) 0 c _ _ _ (by rw [hz.2];omega) (by omega) hv2];exact alike_ok ⟨_,_,h,hc.wr hw (hc.oka.mb v (List.mem_of_getElem? hv)),ht.wr hw hb⟩
 | @stg s b w n hw hn1 hn2 h=>
  rw [if_neg (by simp)] at h2;subst h2;have ht:BoT k s b F a c:=ht;obtain ⟨j,rfl⟩:∃ j:Nat,n=j:=⟨n.toNat,by omega⟩
  rw [ex_sw (x:=j) 0 a _ _ _ (by rw [hz.1];omega) (by omega) (by rw [hc.la];omega),ex_sw (x:=j) 0 c _ _ _ (by rw [hz.2];omega) (by omega) (by rw [hc.lc];omega),← hc.val hw];exact alike_ok ⟨_,_,h,hc.stD hD (by omega) (hc.oka.rg w),ht.st _ _ _ _⟩
 | @chkv s b w z hw h=>
  rw [if_neg (by simp)] at h2;subst h2;have ht:BoT k s b F a c:=ht;rw [ex_ck,ex_ck,← hc.num w hw];refine .inr ⟨rfl,fun h0=>⟨_,F,h,hc,ht,?_⟩⟩;dsimp only at h0 ⊢;split at h0
  ·cases h0
  ·omega
 | @chka s z h=>
  rw [if_neg (by simp)] at h2;subst h2;have ht:BoT k s 0 F a c:=ht;rw [ex_ck,ex_ck,← hc.num 8 (by unfold numR;omega)];refine .inr ⟨rfl,fun h0=>⟨_,F,h,hc,ht.sz,ht.sa,ht.sc,ht.ba,ht.bc,fun _=>?_⟩⟩;dsimp only at h0 ⊢;split at h0
  ·cases h0
  ·omega
 | @ldx s b w z x n hw hb hr hn hz2 h=>
  rw [if_neg (by simp)] at h2;subst h2;obtain ⟨ht,h0,h1⟩:=ht;obtain ⟨j,hj⟩:∃ j:Nat,rgX a w+n=j:=⟨(rgX a w+n).toNat,by omega⟩
  obtain ⟨v,hv,hv2⟩:=hmem j (by omega);rw [ex_lw (x:=j) 0 a _ _ _ hj (by omega) hv,ex_lw (x:=j) 0 c _ _ _ (by rw [← hc.num w hr];exact hj) (by omega) hv2];exact alike_ok ⟨_,_,h,hc.wr hw (hc.oka.mb v (List.mem_of_getElem? hv)),ht.wr hw hb⟩
 | @stx s z w n hw hn hz2 hz0 h=>
  rw [if_neg (by simp)] at h2;subst h2;have ht:BoT k s z F a c:=ht;obtain ⟨h0,h1⟩:=ht.bd hz0;obtain ⟨j,hj⟩:∃ j:Nat,rgX a 8+n=j:=⟨(rgX a 8+n).toNat,by omega⟩
  rw [ex_sw (x:=j) 0 a _ _ _ hj (by omega) (by rw [hc.la];omega),ex_sw (x:=j) 0 c _ _ _ (by rw [← hc.num 8 (by unfold numR;omega)];exact hj) (by omega) (by rw [hc.lc];omega),← hc.val hw];exact alike_ok ⟨_,_,h,hc.stD hD (by omega) (hc.oka.rg w),ht.zero.st _ _ _ _⟩
 | beq h1 h2 h3=>exact absurd (goes_ge (show (15:Int)≤15 by decide) (show (15:Int)≤19 by decide) hg) (by rw [hgo];simp)
 | jmp h=>exact absurd (goes_ge (show (15:Int)≤17 by decide) (show (17:Int)≤19 by decide) hg) (by rw [hgo];simp)
 | jal h1 h2=>exact absurd (goes_ge (show (15:Int)≤18 by decide) (show (18:Int)≤19 by decide) hg) (by rw [hgo];simp)
 | halt=>
  rw [if_neg (by simp)] at h2;subst h2;exact .inr ⟨rfl,fun h=>by cases h⟩
 | @read s h=>
  rw [if_neg (by simp)] at h2;subst h2;have ht:BoT k s 0 F a c:=ht
  have e:∀ s:Co,exI 0 ⟨20,0,0,0,1⟩ s=(match s.inp with
   | []=>(6,s)
   | v::r=>(0,wrX 4 (w32 v) { s with inp:=r })):=fun s=>rfl
  rw [e,e,← hc.inp];cases hin:a.inp with
  | nil=>exact .inr ⟨rfl,fun h=>by cases h⟩
  | cons v q=>
   have hc2:Cor k { a with inp:=q } { c with inp:=q } F:=⟨⟨hc.oka.rl,hc.oka.rb,hc.oka.r0,hc.oka.mb⟩,⟨hc.okc.rl,hc.okc.rb,hc.okc.r0,hc.okc.mb⟩,hc.la,hc.lc,rfl,hc.out,hc.dat,hc.fr.same rfl rfl,hc.num⟩
   have ht2:BoT k s 0 F { a with inp:=q } { c with inp:=q }:=⟨ht.sz,ht.sa,ht.sc,ht.ba,ht.bc,ht.bd⟩
   exact alike_ok ⟨_,_,h,hc2.wr (by unfold numR;omega) (w32_in _),ht2.wr (by unfold numR;omega) (.inl rfl)⟩
 | @writ s h=>
  rw [if_neg (by simp)] at h2;subst h2;have ht:BoT k s 0 F a c:=ht;have e:∀ s:Co,exI 0 ⟨20,0,0,0,2⟩ s=(if 10000≤s.out.length then (9,s) else (0,{ s with out:=s.out++[rgX s 4] })):=fun s=>rfl
  rw [e,e,← hc.out,← hc.num 4 (by unfold numR;omega)];split
  ·exact .inr ⟨rfl,fun h=>by cases h⟩
  ·exact alike_ok ⟨_,F,h,⟨⟨hc.oka.rl,hc.oka.rb,hc.oka.r0,hc.oka.mb⟩,⟨hc.okc.rl,hc.okc.rb,hc.okc.r0,hc.okc.mb⟩,hc.la,hc.lc,hc.inp,rfl,hc.dat,hc.fr.same rfl rfl,hc.num⟩,ht.sz,ht.sa,ht.sc,ht.ba,ht.bc,ht.bd⟩
 | @lea s hs hs2 h=>
  rw [if_neg (by simp)] at h2;subst h2;have ht:BoT k s 0 F a c:=ht;obtain ⟨y,G,rfl⟩:=szF_pos (F:=F) (n:=0) (by rw [← ht.sz];omega);have hys:s=y.s:=ht.sz;have hba:rgX a 30=(y.fp:Int):=ht.ba;have hbc:rgX c 30=((y.fp+k.d:Nat):Int):=ht.bc;obtain ⟨⟨f1,f2,f3,f3b,f4⟩,f5,f9,f10⟩:=hc.fr;have htop2:=f10.top;rw [ex_add,ex_add,hba,hbc,w32_nat (x:=y.fp) (by omega),w32_nat (x:=y.fp+k.d) (by omega),show (y.fp:Int)+(s:Int)=((topF k.N G:Nat):Int) by omega,show ((y.fp+k.d:Nat):Int)+(s:Int)=((topF k.N G+k.d:Nat):Int) by omega,w32_nat (by omega),w32_nat (by omega)];refine alike_ok ⟨_,_,h,hc.wx (by decide) (by unfold numR;omega) ⟨by omega,by omega⟩ ⟨by omega,by omega⟩,?_⟩;refine (regT_le (by decide)).2 ⟨y,G,rfl,hys,?_,?_,?_,?_,fun h=>(by cases h),fun h=>(by cases h)⟩
  ·rw [rg_wr_self hc.oka.rl (by decide) (by decide)]
  ·rw [rg_wr_self hc.okc.rl (by decide) (by decide)]
  ·rw [rg_wr (by decide) (by decide) (.inr (by decide))];exact hba
  ·rw [rg_wr (by decide) (by decide) (.inr (by decide))];exact hbc
 | @le1 s h=>
  rw [if_neg (by simp)] at h2;subst h2;obtain ⟨y,G,he,hu⟩:=(regT_le (by decide)).1 ht;subst he;obtain ⟨⟨f1,f2,f3,f3b,f4⟩,⟨f5,f6,f7,f8⟩,f9,f10⟩:=hc.fr;have htop2:=f10.top;rw [ex_lw (x:=y.fp) 0 a _ _ _ (by rw [hu.ba];omega) (by omega) f5,ex_lw (x:=y.fp+k.d) 0 c _ _ _ (by rw [hu.bc];omega) (by omega) f6];refine alike_ok ⟨_,_,h,hc.wx (by decide) (by unfold numR;omega) (hc.oka.mb _ (List.mem_of_getElem? f5)) (hc.okc.mb _ (List.mem_of_getElem? f6)),?_⟩;refine (regT_le (by decide)).2 ⟨y,G,rfl,hu.sz,?_,?_,?_,?_,fun _=>?_,fun _=>?_⟩
  ·rw [rg_wr (by decide) (by decide) (.inr (by decide))];exact hu.sa
  ·rw [rg_wr (by decide) (by decide) (.inr (by decide))];exact hu.sc
  ·rw [rg_wr (by decide) (by decide) (.inr (by decide))];exact hu.ba
  ·rw [rg_wr (by decide) (by decide) (.inr (by decide))];exact hu.bc
  ·rw [rg_wr_self hc.oka.rl (by decide) (by decide)]
  ·rw [rg_wr_self hc.okc.rl (by decide) (by decide)]
 | @le2 s h=>
  rw [if_neg (by simp)] at h2;subst h2;obtain ⟨y,G,he,hu⟩:=(regT_le (by decide)).1 ht;subst he;obtain ⟨⟨f1,f2,f3,f3b,f4⟩,⟨f5,f6,f7,f8⟩,f9,f10⟩:=hc.fr;have htop2:=f10.top;rw [ex_lw (x:=y.fp+1) 0 a _ _ _ (by rw [hu.ba];omega) (by omega) f7,ex_lw (x:=y.fp+1+k.d) 0 c _ _ _ (by rw [hu.bc];omega) (by omega) f8];have hcG:Cor k a c G:=⟨hc.oka,hc.okc,hc.la,hc.lc,hc.inp,hc.out,hc.dat,f10,hc.num⟩
  refine alike_ok ⟨_,G,h,hcG.wx (by decide) (by unfold numR;omega) (hc.oka.mb _ (List.mem_of_getElem? f7)) (hc.okc.mb _ (List.mem_of_getElem? f8)),?_⟩;refine regT_le3.2 ⟨y.ret,?_,?_,?_,?_,?_,?_,f4⟩
  ·rw [rg_wr (by decide) (by decide) (.inr (by decide))];exact hu.sa
  ·rw [rg_wr (by decide) (by decide) (.inr (by decide))];exact hu.sc
  ·rw [rg_wr_self hc.oka.rl (by decide) (by decide)]
  ·rw [rg_wr_self hc.okc.rl (by decide) (by decide)]
  ·rw [rg_wr (by decide) (by decide) (.inr (by decide))];exact hu.ra rfl
  ·rw [rg_wr (by decide) (by decide) (.inr (by decide))];exact hu.rc rfl
 | le3=>exact absurd (goes_ge (show (15:Int)≤19 by decide) (show (19:Int)≤19 by decide) hg) (by rw [hgo];simp)
 | @en0 s hs hs2 h=>
  rw [if_neg (by simp)] at h2;subst h2;obtain ⟨_,ret,ht⟩:=ht;have hsa:=ht.sa;have hsc:=ht.sc;rw [if_pos rfl] at hsa hsc;rw [ex_add,ex_add,hsa,hsc];rw [show w32 (w32 ((topF k.N F:Int)-0) + -(s:Int))=(topF k.N F:Int)-s by rw [w2 (by omega) (by omega)];omega,show w32 (w32 ((topF k.N F:Int)+k.d-0) + -(s:Int))=(topF k.N F:Int)+k.d-s by rw [w2 (by omega) (by omega)];omega];refine alike_ok ⟨_,F,h,hc.wx (by decide) (by unfold numR;omega) ⟨by omega,by omega⟩ ⟨by omega,by omega⟩,by decide,ret,fun _=>⟨hs,hs2⟩,fun _=>?_,fun _=>?_,ht.rl,?_,?_,fun _=>?_,fun _=>?_,fun h=>(by cases h),fun h=>(by cases h),fun h=>(by omega),fun h=>(by omega),fun h=>(by omega),fun h=>(by omega),fun h=>(by omega)⟩
  ·rw [rg_wr (by decide) (by decide) (.inr (by decide))];exact ht.ra (by omega)
  ·rw [rg_wr (by decide) (by decide) (.inr (by decide))];exact ht.rc (by omega)
  ·rw [rg_wr_self hc.oka.rl (by decide) (by decide),if_neg (by decide)]
  ·rw [rg_wr_self hc.okc.rl (by decide) (by decide),if_neg (by decide)]
  ·rw [rg_wr (by decide) (by decide) (.inr (by decide))];exact ht.ba (by omega)
  ·rw [rg_wr (by decide) (by decide) (.inr (by decide))];exact ht.bc (by omega)
 | @en1 s h=>
  rw [if_neg (by simp)] at h2;subst h2;obtain ⟨_,ret,ht⟩:=ht;obtain ⟨hs,hs2⟩:=ht.sz (by omega);have hsa:=ht.sa;have hsc:=ht.sc;rw [if_neg (by decide)] at hsa hsc;rw [ex_add,ex_add,hsa,hsc];rw [show w32 (w32 ((topF k.N F:Int)-s) + -(k.D:Int))=(topF k.N F:Int)-s-k.D by rw [w2 (by omega) (by omega)];omega,show w32 (w32 ((topF k.N F:Int)+k.d-s) + -(k.D:Int))=(topF k.N F:Int)+k.d-s-k.D by rw [w2 (by omega) (by omega)];omega];refine alike_ok ⟨_,F,h,hc.wx (by decide) (by unfold numR;omega) ⟨by omega,by omega⟩ ⟨by omega,by omega⟩,by decide,ret,fun _=>⟨hs,hs2⟩,fun _=>?_,fun _=>?_,ht.rl,?_,?_,fun _=>?_,fun _=>?_,fun _=>?_,fun _=>?_,fun h=>(by omega),fun h=>(by omega),fun h=>(by omega),fun h=>(by omega),fun h=>(by omega)⟩
  ·rw [rg_wr (by decide) (by decide) (.inr (by decide))];exact ht.ra (by omega)
  ·rw [rg_wr (by decide) (by decide) (.inr (by decide))];exact ht.rc (by omega)
  ·rw [rg_wr (by decide) (by decide) (.inr (by decide)),if_neg (by decide)];exact hsa
  ·rw [rg_wr (by decide) (by decide) (.inr (by decide)),if_neg (by decide)];exact hsc
  ·rw [rg_wr (by decide) (by decide) (.inr (by decide))];exact ht.ba (by omega)
  ·rw [rg_wr (by decide) (by decide) (.inr (by decide))];exact ht.bc (by omega)
  ·rw [rg_wr_self hc.oka.rl (by decide) (by decide)]
  ·rw [rg_wr_self hc.okc.rl (by decide) (by decide)]
 | @en2 s h=>
  rw [if_neg (by simp)] at h2;subst h2;obtain ⟨_,ret,ht⟩:=ht;obtain ⟨hs,hs2⟩:=ht.sz (by omega);have hta:=ht.ta rfl;have htc:=ht.tc rfl;have hsa:=ht.sa;have hsc:=ht.sc;rw [if_neg (by decide)] at hsa hsc;rw [ex_ck,ex_ck,hta,htc,if_neg (show ¬ (7:Int)=0 by decide)];by_cases hroom:(topF k.N F:Int)-s-k.D<0
  ·rw [if_pos (.inl hroom)];by_cases hd:k.d=0
   ·rw [if_pos (.inl (by omega))];exact .inr ⟨rfl,fun h=>by cases h⟩
   ·exact .inl ⟨rfl,by omega⟩
  ·rw [if_neg (by omega),if_neg (by omega)];refine alike_ok ⟨_,F,h,hc,by decide,ret,fun _=>⟨hs,hs2⟩,fun _=>ht.ra (by omega),fun _=>ht.rc (by omega),ht.rl,?_,?_,fun _=>ht.ba (by omega),fun _=>ht.bc (by omega),fun h=>(by cases h),fun h=>(by cases h),fun _=>(by omega),fun h=>(by omega),fun h=>(by omega),fun h=>(by omega),fun h=>(by omega)⟩
   ·rw [if_neg (by decide)];exact hsa
   ·rw [if_neg (by decide)];exact hsc
 | @en3 s h=>
  rw [if_neg (by simp)] at h2;subst h2;obtain ⟨_,ret,ht⟩:=ht;obtain ⟨hs,hs2⟩:=ht.sz (by omega);have hroom:=ht.room (by omega);have hsa:=ht.sa;have hsc:=ht.sc;rw [if_neg (by decide)] at hsa hsc;rw [ex_sw (x:=topF k.N F-s) 0 a _ _ _ (by rw [hsa];omega) (by omega) (by rw [hc.la];omega),ex_sw (x:=topF k.N F-s+k.d) 0 c _ _ _ (by rw [hsc];omega) (by omega) (by rw [hc.lc];omega)];have hra:=ht.ra (by omega);have hrc:=ht.rc (by omega);refine alike_ok ⟨_,F,h,hc.stN (by omega) (by omega) (hc.oka.rg 31) (hc.okc.rg 31),by decide,ret,fun _=>⟨hs,hs2⟩,fun h=>(by omega),fun h=>(by omega),ht.rl,?_,?_,fun _=>ht.ba (by omega),fun _=>ht.bc (by omega),fun h=>(by cases h),fun h=>(by cases h),fun _=>hroom,fun _=>?_,fun _=>?_,fun h=>(by omega),fun h=>(by omega)⟩
  ·rw [if_neg (by decide)];exact hsa
  ·rw [if_neg (by decide)];exact hsc
  ·rw [st_eq (by rw [hc.la];omega),hra]
  ·rw [st_eq (by rw [hc.lc];omega),hrc]
 | @en4 s h=>
  rw [if_neg (by simp)] at h2;subst h2;obtain ⟨_,ret,ht⟩:=ht;obtain ⟨hs,hs2⟩:=ht.sz (by omega);have hroom:=ht.room (by omega);have hsa:=ht.sa;have hsc:=ht.sc;rw [if_neg (by decide)] at hsa hsc;rw [ex_sw (x:=topF k.N F-s+1) 0 a _ _ _ (by rw [hsa];omega) (by omega) (by rw [hc.la];omega),ex_sw (x:=topF k.N F-s+1+k.d) 0 c _ _ _ (by rw [hsc];omega) (by omega) (by rw [hc.lc];omega)];have hba:=ht.ba (by omega);have hbc:=ht.bc (by omega);refine alike_ok ⟨_,F,h,hc.stN (by omega) (by omega) (hc.oka.rg 30) (hc.okc.rg 30),by decide,ret,fun _=>⟨hs,hs2⟩,fun h=>(by omega),fun h=>(by omega),ht.rl,?_,?_,fun _=>hba,fun _=>hbc,fun h=>(by cases h),fun h=>(by cases h),fun _=>hroom,fun _=>?_,fun _=>?_,fun _=>?_,fun _=>?_⟩
  ·rw [if_neg (by decide)];exact hsa
  ·rw [if_neg (by decide)];exact hsc
  ·rw [st_ne (by omega)];exact ht.m0a (by omega)
  ·rw [st_ne (by omega)];exact ht.m0c (by omega)
  ·rw [st_eq (by rw [hc.la];omega),hba]
  ·rw [st_eq (by rw [hc.lc];omega),hbc]
 | @en5 s h=>
  rw [if_neg (by simp)] at h2;subst h2;obtain ⟨_,ret,ht⟩:=ht;obtain ⟨hs,hs2⟩:=ht.sz (by omega);have hroom:=ht.room (by omega);have hsa:=ht.sa;have hsc:=ht.sc;rw [if_neg (by decide)] at hsa hsc;rw [ex_add,ex_add,hsa,hsc];rw [show w32 (w32 ((topF k.N F:Int)-s)+0)=((topF k.N F-s:Nat):Int) by rw [w2 (by omega) (by omega)];omega,show w32 (w32 ((topF k.N F:Int)+k.d-s)+0)=((topF k.N F-s+k.d:Nat):Int) by rw [w2 (by omega) (by omega)];omega];refine alike_ok (ow_next (ret:=ret) h (hc.wx (by decide) (by unfold numR;omega) ⟨by omega,by omega⟩ ⟨by omega,by omega⟩) ⟨fun _=>⟨hs,hs2⟩,fun h=>(by omega),fun h=>(by omega),ht.rl,?_,?_,fun h=>(by omega),fun h=>(by omega),fun h=>(by cases h),fun h=>(by cases h),fun _=>hroom,fun _=>?_,fun _=>?_,fun _=>?_,fun _=>?_⟩ ?_ ?_ (fun j h1 h2=>(by omega)))
  ·rw [rg_wr (by decide) (by decide) (.inr (by decide)),if_neg (by decide)];exact hsa
  ·rw [rg_wr (by decide) (by decide) (.inr (by decide)),if_neg (by decide)];exact hsc
  ·rw [(wr_mem' _ _ _).1];exact ht.m0a (by omega)
  ·rw [(wr_mem' _ _ _).1];exact ht.m0c (by omega)
  ·rw [(wr_mem' _ _ _).1];exact ht.m1a (by omega)
  ·rw [(wr_mem' _ _ _).1];exact ht.m1c (by omega)
  ·rw [rg_wr_self hc.oka.rl (by decide) (by decide)]
  ·rw [rg_wr_self hc.okc.rl (by decide) (by decide)]
 | @own n s w hw hn1 hn2 h=>
  rw [if_neg (by simp)] at h2;subst h2;obtain ⟨ret,ht,hba,hbc,hcell⟩:=ht;obtain ⟨hs,hs2⟩:=ht.sz (by omega);have hroom:=ht.room (by omega);have hsa:=ht.sa;have hsc:=ht.sc;rw [ex_sw (x:=topF k.N F-s+n) 0 a _ _ _ (by rw [hba];omega) (by omega) (by rw [hc.la];omega),ex_sw (x:=topF k.N F-s+n+k.d) 0 c _ _ _ (by rw [hbc];omega) (by omega) (by rw [hc.lc];omega),← hc.val hw];refine alike_ok (ow_next (ret:=ret) h (hc.stN (by omega) (by omega) (hc.oka.rg w) (hc.oka.rg w)) ⟨fun _=>⟨hs,hs2⟩,fun h=>(by omega),fun h=>(by omega),ht.rl,hsa,hsc,fun h=>(by omega),fun h=>(by omega),fun h=>(by cases h),fun h=>(by cases h),fun _=>hroom,fun _=>?_,fun _=>?_,fun _=>?_,fun _=>?_⟩ hba hbc (fun j h1 h2=>?_))
  ·rw [st_ne (by omega)];exact ht.m0a (by omega)
  ·rw [st_ne (by omega)];exact ht.m0c (by omega)
  ·rw [st_ne (by omega)];exact ht.m1a (by omega)
  ·rw [st_ne (by omega)];exact ht.m1c (by omega)
  ·by_cases he:j=n
   ·subst he;rw [st_eq (by rw [hc.la];omega),st_eq (by rw [hc.lc];omega)]
   ·rw [st_ne (by omega),st_ne (by omega)];exact hcell j h1 (by omega)
theorem ty_goes {k:Qm} (hf:∀ x,inK32 (k.f x)) (hrl:∀ t r,k.rl t=some r→0≤t∧t≤4096) {a c:Co} {p:Nat} {i:In} {r:Rl} {F:List Fr} (hp:p≤4096) (hi:OkI (k.D:Int) (k.N:Int) k.rl (p:Int) r i) (hg:goodI i=true) (hgo:goesF i=true) (hhd:i.op=18→k.hd (p+1)) (hc:Cor k a c F) (ht:RegT k F a c r) :
  ∃ t:Nat,(jmpI i (p:Int) a).getD ((p:Int)+1)=(t:Int)∧(if i.op=19 then k.hd t∧rgX c i.a=k.f (t:Int) else jmpI i (p:Int) c=jmpI i (p:Int) a)∧TyR k (exI ((p:Int)+1) i a).2 t (exI (k.f ((p:Int)+1)) i c).2:=by
 have hz:rgX a 0=0∧rgX c 0=0:=⟨rgX_0 hc.oka,rgX_0 hc.okc⟩
 rw [goes_ex hgo,goes_ex hgo];dsimp only;cases hi with
 | @go t h=>
  obtain ⟨u,rfl⟩:∃ u:Nat,t=u:=⟨t.toNat,by have:=hrl _ _ h;omega⟩
  refine ⟨u,rfl,?_,?_⟩
  ·rw [if_neg (by simp)];rfl
  ·rw [if_neg (by simp),if_neg (by simp)];exact ⟨_,F,h,hc,ht⟩
 | top h=>exact absurd hgo (by unfold goesF;simp)
 | alu h1=>exact absurd hgo (by unfold goesF;simp;omega)
 | num h=>exact absurd hgo (by unfold goesF;simp)
 | ldl h=>exact absurd hgo (by unfold goesF;simp)
 | stl h=>exact absurd hgo (by unfold goesF;simp)
 | ldg h=>exact absurd hgo (by unfold goesF;simp)
 | stg h=>exact absurd hgo (by unfold goesF;simp)
 | chkv h=>exact absurd hgo (by unfold goesF;simp)
 | chka h=>exact absurd hgo (by unfold goesF;simp)
 | ldx h=>exact absurd hgo (by unfold goesF;simp)
 | stx h=>exact absurd hgo (by unfold goesF;simp)
 | @beq s w q hw h1 h2=>
  have ht:BoT k s 0 F a c:=ht;have e:∀ s:Co,jmpI ⟨15,w,0,0,q⟩ (p:Int) s=if decide (rgX s w=rgX s 0)=decide ((15:Int)=15) then some ((p:Int)+1+q) else none:=fun s=>rfl
  have ecc:jmpI ⟨15,w,0,0,q⟩ (p:Int) c=jmpI ⟨15,w,0,0,q⟩ (p:Int) a:=by rw [e,e,hz.1,hz.2,hc.num w hw]
  have hnx:∀ t:Nat,k.rl (t:Int)=some (.bo s 0)→TyR k (if (15:Int)=18 then wrX 31 ((p:Int)+1) a else a) t (if (15:Int)=18 then wrX 31 (k.f ((p:Int)+1)) c else c):=fun t h=>by
   rw [if_neg (by decide),if_neg (by decide)];exact ⟨_,F,h,hc,ht⟩
  by_cases hcond:decide (rgX a w=rgX a 0)=decide ((15:Int)=15)
  ·obtain ⟨u,hu⟩:∃ u:Nat,(p:Int)+1+q=u:=⟨((p:Int)+1+q).toNat,by have:=hrl _ _ h2;omega⟩
   rw [hu] at h2;refine ⟨u,?_,?_,hnx u h2⟩
   ·rw [e,if_pos hcond,Option.getD_some,hu]
   ·rw [if_neg (by simp)];exact ecc
  ·refine ⟨p+1,?_,?_,hnx (p+1) h1⟩
   ·rw [e,if_neg hcond];rfl
   ·rw [if_neg (by simp)];exact ecc
 | @jmp s t h=>
  obtain ⟨u,rfl⟩:∃ u:Nat,t=u:=⟨t.toNat,by have:=hrl _ _ h;omega⟩
  refine ⟨u,rfl,?_,?_⟩
  ·rw [if_neg (by simp)];rfl
  ·rw [if_neg (by simp),if_neg (by simp)];exact ⟨_,F,h,hc,ht⟩
 | @jal s s2 t h h1=>
  obtain ⟨u,rfl⟩:∃ u:Nat,t=u:=⟨t.toNat,by have:=hrl _ _ h;omega⟩
  have ht:BoT k s 0 F a c:=ht;refine ⟨u,rfl,?_,?_⟩
  ·rw [if_neg (by simp)];rfl
  ·rw [if_pos rfl,if_pos rfl];refine ⟨_,F,h,hc.wx (by decide) (by unfold numR;omega) ⟨by omega,by omega⟩ (hf _),by decide,p+1,fun h=>(by omega),fun _=>?_,fun _=>?_,⟨by rw [← ht.sz];exact h1,hhd rfl⟩,?_,?_,fun _=>?_,fun _=>?_,fun h=>(by omega),fun h=>(by omega),fun h=>(by omega),fun h=>(by omega),fun h=>(by omega),fun h=>(by omega),fun h=>(by omega)⟩
   ·rw [rg_wr_self hc.oka.rl (by decide) (by decide)];rfl
   ·rw [rg_wr_self hc.okc.rl (by decide) (by decide)];rfl
   ·rw [rg_wr (by decide) (by decide) (.inr (by decide)),if_pos rfl,ht.sa];omega
   ·rw [rg_wr (by decide) (by decide) (.inr (by decide)),if_pos rfl,ht.sc];omega
   ·rw [rg_wr (by decide) (by decide) (.inr (by decide))];exact ht.ba
   ·rw [rg_wr (by decide) (by decide) (.inr (by decide))];exact ht.bc
 | halt=>exact absurd hgo (by unfold goesF;simp)
 | read h=>exact absurd hgo (by unfold goesF;simp)
 | writ h=>exact absurd hgo (by unfold goesF;simp)
 | lea h=>exact absurd hgo (by unfold goesF;simp)
 | le1 h=>exact absurd hgo (by unfold goesF;simp)
 | le2 h=>exact absurd hgo (by unfold goesF;simp)
 | le3=>
  obtain ⟨ret,h1,h2,h3,h4,h5,h6,h7,h8⟩:=regT_le3.1 ht;refine ⟨ret,?_,?_,?_⟩
  ·show rgX a 31=(ret:Int)
   exact h5
  ·rw [if_pos rfl];exact ⟨h8,h6⟩
  ·rw [if_neg (by simp),if_neg (by simp)];exact ⟨_,F,h7,hc,rfl,h1,h2,h3,h4,fun h=>absurd rfl h⟩
 | en0 h=>exact absurd hgo (by unfold goesF;simp)
 | en1 h=>exact absurd hgo (by unfold goesF;simp)
 | en2 h=>exact absurd hgo (by unfold goesF;simp)
 | en3 h=>exact absurd hgo (by unfold goesF;simp)
 | en4 h=>exact absurd hgo (by unfold goesF;simp)
 | en5 h=>exact absurd hgo (by unfold goesF;simp)
 | own h=>exact absurd hgo (by unfold goesF;simp)
structure TyC (code:List In) (D N:Int) (rl:Int→Option Rl):Prop where
 at':∀ (p:Nat) i,code[p]? = some i→∃ r,rl (p:Int)=some r∧OkI D N rl (p:Int) r i
 in':∀ t r,rl t=some r→0≤t∧t<(code.length:Int)
theorem ty_step_lt {code:List In} {D N:Int} {rl:Int→Option Rl} (h:TyC code D N rl) {k:Qm} (hk:k.rl=rl) {a c:Co} {p:Nat} (ht:TyR k a p c):p<code.length:=by
 obtain ⟨r,F,h1,_⟩:=ht;rw [hk] at h1;have:=h.in' _ _ h1;omega
theorem sim_ty {code:List In} {D N:Nat} {rl:Int→Option Rl} (hty:TyC code D N rl) (hfit:fitF code=true) (hD:D≤N) (hN:N≤32000) (f:Int→Int) (hf:∀ x,inK32 (f x)):SimR code f (TyR ⟨D,N,0,f,rl,fun t=>t∈headsF code⟩):=by
 have hlen:code.length≤4096:=by
  unfold fitF at hfit;rw [Bool.and_eq_true,decide_eq_true_eq] at hfit;exact hfit.1
 refine ⟨?_,?_,?_,?_,?_⟩
 ·intro a p c i hr hi hg hgo;obtain ⟨r,F,h1,h2,h3⟩:=hr;obtain ⟨r',h1',hok⟩:=hty.at' p i hi;have:some r=some r':=h1.symm.trans h1';obtain rfl:r=r':=Option.some.inj this
  have hal:=ty_line (k:=⟨D,N,0,f,rl,fun t=>t∈headsF code⟩) (i2:=i) hD (by simpa using hN) hf hok hg hgo h2 h3 (by
   by_cases ht:r = .top
   ·rw [if_pos ht];subst ht;cases hok with
    | top h=>rfl
   ·rw [if_neg ht])
  rcases hal with ⟨_,hal⟩ | hal
  ·exact absurd hal (by simp)
  ·exact hal
 ·intro a p c i hr hi hg hgo;obtain ⟨r,F,h1,h2,h3⟩:=hr;obtain ⟨r',h1',hok⟩:=hty.at' p i hi;have:some r=some r':=h1.symm.trans h1';obtain rfl:r=r':=Option.some.inj this;have hpl:=(List.getElem?_eq_some_iff.1 hi).1;have hnext:p+1<code.length→p+1∈headsF code:=fun h=>head_next hfit hi hgo h
  have hret:i.op=18→p+1<code.length:=fun h18=>by
   cases hok with
   | @jal s s2 t q1 q2=>have:=hty.in' _ _ (show rl ((p:Int)+1)=_ from q2);omega
   | go=>simp at h18
   | top=>simp at h18
   | @alu s b op w x y hop hw hb hx hy hq=>have:op=18:=h18;omega
   | num=>simp at h18
   | ldl=>simp at h18
   | stl=>simp at h18
   | ldg=>simp at h18
   | stg=>simp at h18
   | chkv=>simp at h18
   | chka=>simp at h18
   | ldx=>simp at h18
   | stx=>simp at h18
   | beq=>simp at h18
   | jmp=>simp at h18
   | halt=>simp at h18
   | read=>simp at h18
   | writ=>simp at h18
   | lea=>simp at h18
   | le1=>simp at h18
   | le2=>simp at h18
   | le3=>simp at h18
   | en0=>simp at h18
   | en1=>simp at h18
   | en2=>simp at h18
   | en3=>simp at h18
   | en4=>simp at h18
   | en5=>simp at h18
   | own=>simp at h18
  obtain ⟨t,t1,t2,t3⟩:=ty_goes (k:=⟨D,N,0,f,rl,fun t=>t∈headsF code⟩) hf (fun t r h=>by have:=hty.in' t r h;omega) (by omega) hok hg hgo (fun h18=>hnext (hret h18)) h2 h3;have htl:=ty_step_lt hty rfl t3;refine ⟨t,t1,?_,?_,t3⟩
  ·obtain ⟨h15,h19,_⟩:=goes_op hgo;unfold jmpI at t1;by_cases hb:i.op=15∨i.op=16
   ·rw [if_pos hb] at t1;split at t1
    ·exact head_target hfit hi (by unfold targetF;rw [if_pos hg,if_pos hb];exact congrArg some t1) htl
    ·have:t=p+1:=by have:((p:Int)+1)=(t:Int):=t1;omega
     rw [this];exact hnext (by omega)
   ·rw [if_neg hb] at t1;by_cases hb2:i.op=17∨i.op=18
    ·rw [if_pos hb2] at t1;exact head_target hfit hi (by unfold targetF;rw [if_pos hg,if_neg hb,if_pos hb2];exact congrArg some t1) htl
    ·have h19':i.op=19:=by omega
     rw [if_pos h19'] at t2;exact t2.1
  ·by_cases h19:i.op=19
   ·rw [if_pos h19] at t2 ⊢;exact t2.2
   ·rw [if_neg h19] at t2 ⊢;exact t2
 ·intro a p c hr;obtain ⟨r,F,_,h2,_⟩:=hr;exact h2.out
 ·intro a p c hr;exact ty_step_lt hty rfl hr
 ·intro a p c hr;obtain ⟨r,F,_,h2,_⟩:=hr;exact h2.oka
theorem rg_co0 (n:Nat) (inp:List Int) (r:Int):rgX (co0 n inp) r=0:=zeros_get _ _
theorem ty_start {k:Qm} (hD:k.D≤k.N) (h0:k.rl 0=some .go) (inp:List Int):TyR k (co0 k.N inp) 0 (co0 (k.N+k.d) inp):=by
 refine ⟨.go,[],h0,⟨co0_ok _ _,co0_ok _ _,by simp [co0],by simp [co0],rfl,rfl,fun x hx=>?_,trivial,fun r _=>?_⟩,rfl,rg_co0 _ _ _,rg_co0 _ _ _⟩
 ·unfold co0;dsimp only;rw [List.getElem?_replicate,List.getElem?_replicate];rw [if_pos (by omega),if_pos (by omega)]
 ·rw [rg_co0,rg_co0]
end Go.Proofs.YtkolmklfgbimoaaGreatDoor
namespace Go.Proofs.YtkolmklfgbimoaaGreatDoor.Cm
open Go
def PatR (b:Ba) (syms:List Sym) (all mem:Int) (imps:List ByteArray) (ps:List Pa) (p:Nat) (i j:In):Prop:=
 (∃ q∈ps,q.pl=(p:Int)∧∃ n,numF b syms all mem imps q i.imm=some n∧j=⟨i.op,i.a,i.b,i.c,n⟩)∨((∀ q∈ps,q.pl≠(p:Int))∧j=i)
theorem patsF_spec {b:Ba} {syms:List Sym} {all mem:Int} {imps:List ByteArray}:∀ (ps:List Pa) (code code2:List In),patsF b syms all mem imps code ps=(0,code2)→ps.Pairwise (fun x y=>x.pl<y.pl)→(∀ q∈ps,0≤q.pl∧b.1+q.pl.toNat<code.length) →
  code2.length=code.length∧(∀ (p:Nat) i,code[b.1+p]? = some i→∃ j,code2[b.1+p]? = some j∧PatR b syms all mem imps ps p i j)∧∀ x,(∀ q∈ps,x≠b.1+q.pl.toNat)→code2[x]? = code[x]?
 | [],code,code2,h,_,_=>by
  have h2:code=code2:=congrArg Prod.snd h;rw [← h2];exact ⟨rfl,fun p i hi=>⟨i,hi,.inr ⟨fun q hq=>(by cases hq),rfl⟩⟩,fun x _=>rfl⟩
 | q::ps,code,code2,h,hs,hb=>by
  have hs2:=List.pairwise_cons.1 hs;obtain ⟨hq0,hq1⟩:=hb q List.mem_cons_self;unfold patsF at h;dsimp only at h;by_cases h1:(patchF code b syms all mem imps q).1=0
  ·rw [if_pos h1] at h;have hlen:=patchF_len code b syms all mem imps q;obtain ⟨g1,g2,g3⟩:=patsF_spec ps _ code2 h hs2.2 (fun r hr=>by rw [hlen];exact hb r (List.mem_cons_of_mem _ hr));obtain ⟨i0,hi0⟩:∃ i0,code[b.1+q.pl.toNat]? = some i0:=⟨_,List.getElem?_eq_getElem hq1⟩
   have hgd:code.getD (b.1+q.pl.toNat) inD=i0:=by rw [List.getD_eq_getElem?_getD,hi0];rfl
   obtain ⟨n,hn,hset⟩:∃ n,numF b syms all mem imps q i0.imm=some n∧(patchF code b syms all mem imps q).2=code.set (b.1+q.pl.toNat) ⟨i0.op,i0.a,i0.b,i0.c,n⟩:=by
    unfold patchF at h1 ⊢;dsimp only at h1 ⊢;rw [hgd] at h1 ⊢;cases hn:numF b syms all mem imps q i0.imm with
    | none=>rw [hn] at h1;simp at h1
    | some n=>
     rw [hn] at h1;dsimp only at h1 ⊢;by_cases hg:goodI ⟨i0.op,i0.a,i0.b,i0.c,n⟩=true
     ·rw [if_pos hg];exact ⟨n,rfl,rfl⟩
     ·rw [if_neg hg] at h1;simp at h1
   refine ⟨by rw [g1,hlen],fun p i hi=>?_,fun x hx=>?_⟩
   ·by_cases hp:q.pl=(p:Int)
    ·have hpe:q.pl.toNat=p:=by omega
     rw [hpe] at hi0 hset;rw [hi] at hi0;have hii:i=i0:=Option.some.inj hi0;rw [← hii] at hset hn;have hpl:=(List.getElem?_eq_some_iff.1 hi).1;refine ⟨⟨i.op,i.a,i.b,i.c,n⟩,?_,.inl ⟨q,List.mem_cons_self,hp,n,hn,rfl⟩⟩;rw [g3 (b.1+p) (fun r hr he=>by have:=hs2.1 r hr;have:=hb r (List.mem_cons_of_mem _ hr);omega),hset,List.getElem?_set_self hpl]
    ·have hi2:(patchF code b syms all mem imps q).2[b.1+p]? = some i:=by
      rw [hset,List.getElem?_set_ne (by omega)];exact hi
     obtain ⟨j,j1,j2⟩:=g2 p i hi2;refine ⟨j,j1,?_⟩;rcases j2 with ⟨r,r1,r2⟩ | ⟨r1,r2⟩
     ·exact .inl ⟨r,List.mem_cons_of_mem _ r1,r2⟩
     ·refine .inr ⟨fun r hr=>?_,r2⟩;rcases List.mem_cons.1 hr with rfl | hr
      ·exact hp
      ·exact r1 r hr
   ·rw [g3 x (fun r hr=>hx r (List.mem_cons_of_mem _ hr)),hset,List.getElem?_set_ne (fun he=>hx q List.mem_cons_self he.symm)]
  ·rw [if_neg h1] at h;exact absurd (congrArg Prod.fst h) h1
def basO:Nat→Int→List Ob→List (Ba×Ob)
 | _,_,[]=>[]
 | x,d,o::l=>((x,d),o)::basO (x+o.code.length) (d+o.data) l
theorem objsF_spec {syms:List Sym} {all mem:Int}:∀ (l:List Ob) (x:Nat) (d:Int) (code code2:List In),objsF syms all mem code (basO x d l)=(0,code2)→(∀ o∈l,o.pats.Pairwise (fun a b=>a.pl<b.pl)∧∀ q∈o.pats,0≤q.pl∧q.pl<(o.code.length:Int))→x+(l.map fun o=>o.code.length).sum≤code.length →
  code2.length=code.length∧(∀ y,y<x→code2[y]? = code[y]?)∧∀ (u:List Ob) (o:Ob) (v:List Ob),l=u++o::v→∀ (p:Nat) i,p<o.code.length→code[x+(u.map fun o=>o.code.length).sum+p]? = some i→∃ j,code2[x+(u.map fun o=>o.code.length).sum+p]? = some j∧PatR (x+(u.map fun o=>o.code.length).sum,d+(u.map Ob.data).sum) syms all mem o.imps o.pats p i j
 | [],x,d,code,code2,h,_,_=>by
  have h2:code=code2:=congrArg Prod.snd h;rw [← h2];exact ⟨rfl,fun _ _=>rfl,fun u o v he=>by simp at he⟩
 | o::l,x,d,code,code2,h,ho,hx=>by
  unfold basO objsF at h;dsimp only at h;simp only [List.map_cons,List.sum_cons] at hx;by_cases h1:(patsF (x,d) syms all mem o.imps code o.pats).1=0
  ·rw [if_pos h1] at h;obtain ⟨o1,o2⟩:=ho o List.mem_cons_self;obtain ⟨g1,g2,g3⟩:=patsF_spec o.pats code (patsF (x,d) syms all mem o.imps code o.pats).2 (Prod.ext h1 rfl) o1 (fun q hq=>by have:=o2 q hq;dsimp only;omega);dsimp only at g1 g2 g3;obtain ⟨k1,k2,k3⟩:=objsF_spec l (x+o.code.length) (d+o.data) _ code2 h (fun q hq=>ho q (List.mem_cons_of_mem _ hq)) (by rw [g1];omega);refine ⟨by rw [k1,g1],fun y hy=>?_,fun u q v he p i hp hi=>?_⟩
   ·rw [k2 y (by omega),g3 y (fun q hq he=>by have:=o2 q hq;omega)]
   ·cases u with
    | nil=>
     obtain ⟨rfl,rfl⟩:o=q∧l=v:=by simpa using he
     simp only [List.map_nil,List.sum_nil,Nat.add_zero,Int.add_zero] at hi ⊢;obtain ⟨j,j1,j2⟩:=g2 p i hi;exact ⟨j,by rw [k2 _ (by omega)];exact j1,j2⟩
    | cons w u=>
     obtain ⟨rfl,rfl⟩:o=w∧l=u++q::v:=by simpa using he
     simp only [List.map_cons,List.sum_cons] at hi ⊢;have e1:x+(o.code.length+(u.map fun o=>o.code.length).sum)=x+o.code.length+(u.map fun o=>o.code.length).sum:=by omega
     have e2:d+(o.data+(u.map Ob.data).sum)=d+o.data+(u.map Ob.data).sum:=by omega
     rw [e1] at hi ⊢;rw [e2];exact k3 u q v rfl p i hp (by rw [g3 _ (fun r hr he=>by have:=o2 r hr;omega)];exact hi)
  ·rw [if_neg h1] at h;exact absurd (congrArg Prod.fst h) h1
theorem zip_basO (l:List Ob):(baseK l l.length).zip l=basO 0 0 l:=by
 have key:∀ (l:List Ob) (x:Nat) (d:Int),((List.range l.length).map fun i=>(x+atF l i,d+dataF (l.take i))).zip l=basO x d l:=by
  intro l
  induction l with
  | nil=>intros;rfl
  | cons o l ih=>
   intro x d;rw [List.length_cons,List.range_succ_eq_map,List.map_cons,List.map_map,List.zip_cons_cons,basO]
   congr 1
   ·simp [atF,dataF]
   ·rw [← ih]
    congr 1
    refine List.map_congr_left fun i _=>?_
    show (x+atF (o::l) (i+1),d+dataF ((o::l).take (i+1)))=_
    simp only [atF,dataF,List.take_succ_cons,List.map_cons,List.sum_cons,Prod.mk.injEq];omega
 have:=key l 0 0;simp only [Nat.zero_add,Int.zero_add] at this;exact this
theorem expsF_mem {a:Int}:∀ (l:List Sy) (s s2:List Sym),expsF a s l=some s2→∀ y∈s2,y∈s∨∃ x∈l,y=(x.name,a+x.pl)
 | [],s,s2,h,y,hy=>by
  have:s=s2:=Option.some.inj h;rw [← this] at hy;exact .inl hy
 | x::l,s,s2,h,y,hy=>by
  unfold expsF at h;cases hs:symF x.name s with
  | some v=>rw [hs] at h;cases h
  | none=>
   rw [hs] at h;dsimp only at h;rcases expsF_mem l _ s2 h y hy with h1 | ⟨z,hz,h1⟩
   ·rcases List.mem_append.1 h1 with h1 | h1
    ·exact .inl h1
    ·exact .inr ⟨x,List.mem_cons_self,List.mem_singleton.1 h1⟩
   ·exact .inr ⟨z,List.mem_cons_of_mem _ hz,h1⟩
theorem namesF_mem:∀ (l:List Ob) (seen:List ByteArray) (s s2:List Sym) (a:Int),namesF seen s a l=some s2→∀ y∈s2,y∈s∨∃ u o v x,l=u++o::v∧x∈o.exps∧y.2=a+((u.map fun o=>o.code.length).sum:Nat)+x.pl
 | [],seen,s,s2,a,h,y,hy=>by
  have:s=s2:=Option.some.inj h;rw [← this] at hy;exact .inl hy
 | o::l,seen,s,s2,a,h,y,hy=>by
  unfold namesF at h;split at h
  ·cases h
  ·cases he:expsF a s o.exps with
   | none=>rw [he] at h;cases h
   | some s3=>
    rw [he] at h;dsimp only at h;rcases namesF_mem l _ s3 s2 _ h y hy with h1 | ⟨u,q,v,x,h1,h2,h3⟩
    ·rcases expsF_mem _ _ _ he y h1 with h4 | ⟨x,hx,h4⟩
     ·exact .inl h4
     ·exact .inr ⟨[],o,l,x,rfl,hx,by rw [h4];simp⟩
    ·refine .inr ⟨o::u,q,v,x,by rw [h1];rfl,h2,?_⟩;rw [h3];simp only [List.map_cons,List.sum_cons];omega
theorem symF_mem {v:ByteArray} {n:Int}:∀ {l:List Sym},symF v l=some n→∃ y∈l,y.2=n
 | [],h=>by cases h
 | a::l,h=>by
  unfold symF at h;split at h
  ·exact ⟨a,List.mem_cons_self,Option.some.inj h⟩
  ·obtain ⟨y,hy,h1⟩:=symF_mem h;exact ⟨y,List.mem_cons_of_mem _ hy,h1⟩
theorem okI_D {D N:Int} {rl:Int→Option Rl} {p:Int} {r:Rl} {i:In} (h:OkI 0 0 rl p r i) (h1:r ≠ .top) (h2:∀ s,r ≠ .en 1 s) (hD:0≤D):OkI D N rl p r i:=by
 cases h with
 | go h=>exact .go h
 | top h=>exact absurd rfl h1
 | alu q1 q2 q3 q4 q5 h=>exact .alu q1 q2 q3 q4 q5 h
 | num q1 q2 h=>exact .num q1 q2 h
 | ldl q1 q2 q3 q4 h=>exact .ldl q1 q2 q3 q4 h
 | stl q1 q3 q4 h=>exact .stl q1 q3 q4 h
 | ldg q1 q2 q3 q4 h=>exact .ldg q1 q2 q3 (by omega) h
 | stg q1 q3 q4 h=>exact .stg q1 q3 (by omega) h
 | chkv q1 h=>exact .chkv q1 h
 | chka h=>exact .chka h
 | ldx q1 q2 q3 q4 q5 h=>exact .ldx q1 q2 q3 q4 (by omega) h
 | stx q1 q2 q3 q4 h=>exact .stx q1 q2 (by omega) q4 h
 | beq q1 q2 h=>exact .beq q1 q2 h
 | jmp h=>exact .jmp h
 | jal h q1=>exact .jal h q1
 | halt=>exact .halt
 | read h=>exact .read h
 | writ h=>exact .writ h
 | lea q1 q2 h=>exact .lea q1 q2 h
 | le1 h=>exact .le1 h
 | le2 h=>exact .le2 h
 | le3=>exact .le3
 | en0 q1 q2 h=>exact .en0 q1 q2 h
 | en1 h=>exact absurd rfl (h2 _)
 | en2 h=>exact .en2 h
 | en3 h=>exact .en3 h
 | en4 h=>exact .en4 h
 | en5 h=>exact .en5 h
 | own q1 q2 q3 h=>exact .own q1 q2 q3 h
theorem pat_one {ps:List Pa} (h:ps.Pairwise (fun a b=>a.pl<b.pl)) {q r:Pa} (hq:q∈ps) (hr:r∈ps) (he:q.pl=r.pl):q=r:=by
 obtain ⟨i,hi,rfl⟩:=List.mem_iff_getElem.1 hq;obtain ⟨j,hj,rfl⟩:=List.mem_iff_getElem.1 hr;rw [List.pairwise_iff_getElem] at h;by_cases hij:i=j
 ·subst hij;rfl
 ·by_cases hl:i<j
  ·have:=h i j hi hj hl;omega
  ·have:=h j i hj hi (by omega);omega
theorem ok_link {o:Ob} {RS:List Rl} (hty:TyOb o.code o.data o.exps o.pats RS) {D N:Int} {rl:Int→Option Rl} {B:Nat} {d:Int} {syms:List Sym} (hrl:∀ t ρ,lookR RS t=some ρ→rl ((B:Int)+t)=some ρ) (hd:0≤d∧d+o.data≤D) (h0:0≤D) (hsy:∀ y∈syms,∃ s2,rl y.2=some (.en 0 s2)) {p:Nat} {r:Rl} {i j:In} (hok:OkO o.data (lookR RS) o.pats (p:Int) r i) (hj:PatR (B,d) syms D N o.imps o.pats p i j):OkI D N rl ((B:Int)+p) r j:=by
 have one:∀ {k n:Int} {m:Int},(⟨(p:Int),k,n⟩:Pa)∈o.pats→PatR (B,d) syms D N o.imps o.pats p i j→∃ n2,numF (B,d) syms D N o.imps ⟨(p:Int),k,n⟩ i.imm=some n2∧j=⟨i.op,i.a,i.b,i.c,n2⟩:=by
  intro k n m hm hj;rcases hj with ⟨q,q1,q2,n2,q3,q4⟩ | ⟨q1,q2⟩
  ·have:q=⟨(p:Int),k,n⟩:=pat_one hty.so q1 hm q2;rw [this] at q3;exact ⟨n2,q3,q4⟩
  ·exact absurd rfl (q1 _ hm)
 have nx:∀ {ρ:Rl},lookR RS ((p:Int)+1)=some ρ→rl ((B:Int)+p+1)=some ρ:=fun h=>by
  rw [Int.add_assoc];exact hrl _ _ h
 cases hok with
 | pl h1 h2 h3 h4 h5 h6=>
  rcases hj with ⟨q,q1,q2,_⟩ | ⟨_,rfl⟩
  ·exact absurd q2 (h1 q q1)
  ·refine okI_D (okI_mono h6 (fun ρ h _=>nx h) (fun k ρ h _=>?_) (fun h=>(h.elim (fun h=>absurd h h4) (fun h=>absurd h h5)))) h2 h3 h0;rw [show (B:Int)+p+1+k=(B:Int)+((p:Int)+1+k) by omega];exact hrl _ _ h
 | @go t h1 h=>
  obtain ⟨n2,g1,rfl⟩:=one (m:=0) h1 hj;have g1:some (t+(B:Int))=some n2:=g1;rw [← Option.some.inj g1];exact .go (by rw [Int.add_comm];exact hrl _ _ h)
 | @jmp s t h1 h=>
  obtain ⟨n2,g1,rfl⟩:=one (m:=0) h1 hj;have g1:some (t+(B:Int))=some n2:=g1;rw [← Option.some.inj g1];exact .jmp (by rw [Int.add_comm];exact hrl _ _ h)
 | @jal s s2 t h1 h2 h=>
  obtain ⟨n2,g1,rfl⟩:=one (m:=0) h1 hj;have g1:some (t+(B:Int))=some n2:=g1;rw [← Option.some.inj g1];exact .jal (by rw [Int.add_comm];exact hrl _ _ h2) (nx h)
 | @ext s k h1 h=>
  obtain ⟨n2,g1,rfl⟩:=one (m:=0) h1 hj;have g1:symF (o.imps.getD k.toNat .empty) syms=some n2:=g1;obtain ⟨y,y1,rfl⟩:=symF_mem g1;obtain ⟨s2,hs⟩:=hsy y y1;exact .jal hs (nx h)
 | top h1 h=>
  obtain ⟨n2,g1,rfl⟩:=one (m:=0) h1 hj;have g1:some (0+N)=some n2:=g1;rw [← Option.some.inj g1,Int.zero_add];exact .top (nx h)
 | en1 h1 h=>
  obtain ⟨n2,g1,rfl⟩:=one (m:=0) h1 hj;have g1:some (0-D)=some n2:=g1;rw [← Option.some.inj g1,Int.zero_sub];exact .en1 (nx h)
 | @ldg s b a n h1 h2 h3 h4 h5 h=>
  obtain ⟨n2,g1,rfl⟩:=one (m:=0) h1 hj;have g1:some (n+d)=some n2:=g1;rw [← Option.some.inj g1];exact .ldg h2 h3 (by omega) (by omega) (nx h)
 | @stg s b a n h1 h3 h4 h5 h=>
  obtain ⟨n2,g1,rfl⟩:=one (m:=0) h1 hj;have g1:some (n+d)=some n2:=g1;rw [← Option.some.inj g1];exact .stg h3 (by omega) (by omega) (nx h)
 | @ldx s b r z a n h1 h2 h3 h4 h5 h6 h=>
  obtain ⟨n2,g1,rfl⟩:=one (m:=0) h1 hj;have g1:some (n+d)=some n2:=g1;rw [← Option.some.inj g1];exact .ldx h2 h3 h4 (by omega) (by omega) (nx h)
 | @stx s z a n h1 h2 h3 h4 h5 h=>
  obtain ⟨n2,g1,rfl⟩:=one (m:=0) h1 hj;have g1:some (n+d)=some n2:=g1;rw [← Option.some.inj g1];exact .stx h2 (by omega) (by omega) h5 (nx h)
end Go.Proofs.YtkolmklfgbimoaaGreatDoor.Cm
namespace Go.Proofs.YtkolmklfgbimoaaGreatDoor
open Go
def boundM (m:List (Int×Int)) (b:Int):Prop:=∀ p∈m,0≤p.2∧p.2≤b
theorem boundM_put:∀ {m:List (Int×Int)} {k v b:Int},boundM m b→0≤v→v≤b→boundM (putM m k v) b
 | [],k,v,b,_,h0,h1=>fun p hp=>by
  rw [putM,List.mem_singleton] at hp;rw [hp];exact ⟨h0,h1⟩
 | (x,y)::m,k,v,b,h,h0,h1=>by
  unfold putM;split
  ·intro p hp;rcases List.mem_cons.1 hp with rfl | hp
   ·exact ⟨h0,h1⟩
   ·exact h p (List.mem_cons_of_mem _ hp)
  ·intro p hp;rcases List.mem_cons.1 hp with rfl | hp
   ·exact h _ List.mem_cons_self
   ·exact boundM_put (fun q hq=>h q (List.mem_cons_of_mem _ hq)) h0 h1 p hp
theorem boundM_new:∀ {m:List (Int×Int)} {b:Int},boundM m b→0≤b→∀ x,0≤newF m x∧newF m x≤b
 | [],b,_,h0,x=>⟨Int.le_refl 0,h0⟩
 | (u,v)::m,b,h,h0,x=>by
  unfold newF;split
  ·exact h _ List.mem_cons_self
  ·exact boundM_new (fun q hq=>h q (List.mem_cons_of_mem _ hq)) h0 x
theorem layK_bound (code:List In):∀ k,k≤(headsF code).length→boundM (layK code k).anew ((layK code k).code.length:Int)
 | 0,_=>fun p hp=>by cases hp
 | k+1,hk=>by
  rw [layK_anew code (by omega),layK_code code (by omega),List.length_append];refine boundM_put (fun p hp=>?_) (by omega) (by omega);have:=layK_bound code k (by omega) p hp;omega
theorem all_bound (code:List In):boundM (layAll code).anew ((layAll code).code.length:Int):=by
 rw [layAll_eq];exact boundM_put (layK_bound code _ (Nat.le_refl _)) (by omega) (by show ((layK code _).code.length:Int)≤_;exact Int.le_refl _)
theorem reorg_len {code new:List In} {pl:List Int} (h:reorgF code=(new,pl,0)):(layAll code).code.length≤4096:=by
 unfold reorgF at h;split at h
 ·dsimp only at h;split at h
  ·cases h
  ·omega
 ·cases h
theorem seq_split {code:List In} {N fuel:Nat} {inp out u:List Int} {t n:Int} (h:seqQ code (N:Int) inp (fuel:Int)=(t,n,out,u)) (h0:t≠0):N≤32000∧code.length≤4096∧∃ q,runQ code fuel (mkM (co0 N inp) ((0:Nat):Int))=(t,n,q)∧q.out=out:=by
 unfold seqQ at h;split at h
 ·cases h;exact absurd rfl h0
 ·rename_i hc;dsimp only at h;rw [Int.toNat_natCast,Int.toNat_natCast] at h;refine ⟨by omega,by omega,(runQ code fuel (ms0 N inp)).2.2,?_,?_⟩
  ·have h1:=congrArg Prod.fst h;have h2:=congrArg (fun z=>z.2.1) h;dsimp only at h1 h2;rw [← h1,← h2];rfl
  ·exact congrArg (fun z=>z.2.2.1) h
theorem both_run {code new:List In} {pl:List Int} {D N:Nat} {rl:Int→Option Rl} (hty:TyC code D N rl) (h0:rl 0=some .go) (hD:D≤N) (hre:reorgF code=(new,pl,0)) {fuel fuel2:Nat} {inp out u:List Int} {t n:Int} (hs:seqQ code (N:Int) inp (fuel:Int)=(t,n,out,u)) (ht:t≠0) (hf2:3*n.toNat+2*code.length+10≤fuel2) :
  ∃ n2 u2,pipQ new (N:Int) inp (fuel2:Int)=(t,n2,out,u2)∧n2≤3*n+2*code.length+10:=by
 obtain ⟨hN,hl,q,hq,rfl⟩:=seq_split hs ht;have hreo:=reorg_reo hre;have hb:=all_bound code;have hlen:=reorg_len hre
 have hfin:∀ x,inK32 (newF (layAll code).anew x):=fun x=>by
  have:=boundM_new hb (by omega) x;exact ⟨by omega,by omega⟩
 have hpos:0<code.length:=by
  have:=hty.in' _ _ h0;omega
 obtain ⟨z1,z2⟩:=reorg_zero hreo.fit hpos;have hsim:=sim_ty hty hreo.fit hD hN (newF (layAll code).anew) hfin;have hst:=ty_start (k:=⟨D,N,0,newF (layAll code).anew,rl,fun t=>t∈headsF code⟩) hD h0 inp;obtain ⟨n1,k,hk,hok,g1,g2,g3⟩:=sim_run hreo hsim ht fuel fuel (Nat.le_refl _) _ 0 _ n z2 hst hq;rw [show newF (layAll code).anew ((0:Nat):Int)=0 from z1,Int.zero_add] at hok g1 g3;have hp:=pip_D (code:=new) hreo.len hN (inp:=inp) (k:=k) (fuel:=fuel2) (t:=t) hok g1 ht (by omega);obtain ⟨u2,hp⟩:=hp;refine ⟨(k:Int)+4,u2,?_,?_⟩
 ·rw [hp];have:(stepD new (itD new k (ds0 N inp))).2.c.out=q.out:=g3;rw [this]
 ·omega
end Go.Proofs.YtkolmklfgbimoaaGreatDoor
namespace Go.Proofs.YtkolmklfgbimoaaGreatDoor.Cm
open Go
theorem codeF_split (u:List Ob) (o:Ob) (v:List Ob) (p:Nat) (h:p<o.code.length):(codeF (u++o::v))[(u.map fun o=>o.code.length).sum+p]? = o.code[p]? := by
 unfold codeF;rw [List.flatMap_append,List.flatMap_cons,List.getElem?_append_right (by rw [List.length_flatMap];omega),List.length_flatMap,Nat.add_sub_cancel_left,List.getElem?_append_left h]
theorem flat_split {g:Ob→List Rl} (u:List Ob) (o:Ob) (v:List Ob) (hg:∀ q∈u++o::v,(g q).length=q.code.length) (p:Nat) {r:Rl} (h:(g o)[p]? = some r):((u++o::v).flatMap g)[(u.map fun o=>o.code.length).sum+p]? = some r:=by
 have hl:(u.flatMap g).length=(u.map fun o=>o.code.length).sum:=by
  rw [List.length_flatMap]
  congr 1
  exact List.map_congr_left fun q hq=>hg q (List.mem_append_left _ hq)
 rw [List.flatMap_append,List.flatMap_cons,List.getElem?_append_right (by omega),hl,Nat.add_sub_cancel_left,List.getElem?_append_left (List.getElem?_eq_some_iff.1 h).1,h]
theorem place_split:∀ (l:List Ob) (p:Nat),p<(codeF l).length→∃ u o v q,l=u++o::v∧p=(u.map fun o=>o.code.length).sum+q∧q<o.code.length
 | [],p,h=>by simp [codeF] at h
 | o::l,p,h=>by
  by_cases hp:p<o.code.length
  ·exact ⟨[],o,l,p,rfl,by simp,hp⟩
  ·have h:p<(o.code++codeF l).length:=h;rw [List.length_append] at h;obtain ⟨u,q,v,k,h1,h2,h3⟩:=place_split l (p-o.code.length) (by omega);refine ⟨o::u,q,v,k,by rw [h1];rfl,?_,h3⟩;simp only [List.map_cons,List.sum_cons];omega
theorem data_split (u:List Ob) (o:Ob) (v:List Ob) (h:∀ q∈u++o::v,0≤q.data):0≤(u.map Ob.data).sum∧(u.map Ob.data).sum+o.data≤dataF (u++o::v):=by
 have hs:∀ l:List Ob,(∀ q∈l,0≤q.data)→0≤(l.map Ob.data).sum:=by
  intro l
  induction l with
  | nil=>intro _;exact Int.le_refl 0
  | cons q l ih=>
   intro h;have h1:=h q List.mem_cons_self;have h2:=ih (fun x hx=>h x (List.mem_cons_of_mem _ hx));simp only [List.map_cons,List.sum_cons];omega
 have h1:=hs u (fun q hq=>h q (List.mem_append_left _ hq));have h2:=hs v (fun q hq=>h q (List.mem_append_right _ (List.mem_cons_of_mem _ hq)));refine ⟨h1,?_⟩;unfold dataF;rw [List.map_append,List.sum_append,List.map_cons,List.sum_cons];omega
theorem link_ty {l:List Ob} {g:Ob→List Rl} (hg:∀ o∈l,TyOb o.code o.data o.exps o.pats (g o)) {mem data:Int} {code:List In} (h:linkF l mem=(code,data,0)):TyC code data mem (lookR (l.flatMap g))∧0≤data∧data≤mem∧mem≤32000∧code.length≤4096:=by
 unfold linkF at h;split at h
 ·cases h
 rename_i h1;cases hn:namesF [] [] 0 l with
 | none=>rw [hn] at h;cases h
 | some syms=>
  rw [hn] at h;dsimp only at h;split at h
  ·cases h
  rename_i h2;split at h
  ·rename_i h3;have hcode:(objsF syms (dataF l) mem (codeF l) ((baseK l l.length).zip l)).2=code:=congrArg Prod.fst h;have hdata:dataF l=data:=congrArg (fun z=>z.2.1) h;rw [zip_basO] at h3 hcode
   have hgood:∀ o∈l,goodO o=true:=fun o ho=>by
    have h4:¬ (l.any fun o => !goodO o)=true:=fun h5=>h1 (.inr (.inr (.inr h5)))
    cases h5:goodO o with
    | true=>rfl
    | false=>exact absurd (List.any_eq_true.2 ⟨o,ho,by rw [h5];rfl⟩) h4
   have hd0:∀ o∈l,0≤o.data:=fun o ho=>by
    have:=hgood o ho;unfold goodO at this;simp only [Bool.and_eq_true,decide_eq_true_eq] at this;exact this.2.2.2.2.1
   obtain ⟨k1,_,k3⟩:=objsF_spec (syms:=syms) (all:=dataF l) (mem:=mem) l 0 0 (codeF l) code (Prod.ext h3 hcode) (fun o ho=>⟨(hg o ho).so,(hg o ho).pb⟩) (by rw [codeF_len];omega)
   have hdn:0≤dataF l:=by
    unfold dataF
    have:∀ m:List Ob,(∀ q∈m,0≤q.data)→0≤(m.map Ob.data).sum:=by
     intro m
     induction m with
     | nil=>intro _;exact Int.le_refl 0
     | cons q m ih=>
      intro h;have h1:=h q List.mem_cons_self;have h2:=ih (fun x hx=>h x (List.mem_cons_of_mem _ hx));simp only [List.map_cons,List.sum_cons];omega
    exact this l hd0
   have hlk:∀ (u:List Ob) (o:Ob) (v:List Ob),l=u++o::v→∀ t ρ,lookR (g o) t=some ρ→lookR (l.flatMap g) ((((u.map fun o=>o.code.length).sum:Nat):Int)+t)=some ρ:=by
    intro u o v he t ρ ht;unfold lookR at ht;split at ht
    ·rename_i h0;obtain ⟨m,rfl⟩:∃ m:Nat,t=m:=⟨t.toNat,by omega⟩
     rw [Int.toNat_natCast] at ht;rw [show (((u.map fun o=>o.code.length).sum:Nat):Int)+(m:Int)=(((u.map fun o=>o.code.length).sum+m:Nat):Int) by omega,lookR_nat,he];exact flat_split u o v (fun q hq=>(hg q (by rw [he];exact hq)).len) m ht
    ·cases ht
   have hsy:∀ y∈syms,∃ s2,lookR (l.flatMap g) y.2=some (.en 0 s2):=by
    intro y hy;rcases namesF_mem l [] [] syms 0 hn y hy with h4 | ⟨u,o,v,x,h4,h5,h6⟩
    ·cases h4
    ·obtain ⟨s2,h7⟩:=(hg o (by rw [h4];simp)).xp x h5;rw [h6,Int.zero_add];exact ⟨s2,hlk u o v h4 _ _ h7⟩
   have hfl:(l.flatMap g).length=code.length:=by
    rw [k1,codeF_len,List.length_flatMap]
    congr 1
    exact List.map_congr_left fun q hq=>(hg q hq).len
   refine ⟨⟨fun p i hp=>?_,fun t r ht=>?_⟩,?_⟩
   ·have hpl:=(List.getElem?_eq_some_iff.1 hp).1;rw [k1] at hpl;obtain ⟨u,o,v,q,he,rfl,hq⟩:=place_split l p hpl;obtain ⟨i0,hi0⟩:∃ i0,o.code[q]? = some i0:=⟨_,List.getElem?_eq_getElem hq⟩
    have hty:=hg o (by rw [he];simp);obtain ⟨r,hr,hok⟩:=hty.ok q i0 hi0
    have hc0:(codeF l)[0+(u.map fun o=>o.code.length).sum+q]? = some i0:=by
     rw [Nat.zero_add,he,codeF_split u o v q hq,hi0]
    obtain ⟨j,j1,j2⟩:=k3 u o v he q i0 hq hc0;rw [Nat.zero_add,hp] at j1;have hij:i=j:=Option.some.inj j1;rw [Nat.zero_add,Int.zero_add] at j2;obtain ⟨d1,d2⟩:=data_split u o v (fun x hx=>hd0 x (by rw [he];exact hx));rw [← he] at d2;refine ⟨r,?_,?_⟩
    ·rw [show (((u.map fun o=>o.code.length).sum+q:Nat):Int)=(((u.map fun o=>o.code.length).sum:Nat):Int)+(q:Int) by omega];exact hlk u o v he _ _ (by rw [lookR_nat];exact hr)
    ·rw [hij,← hdata,show (((u.map fun o=>o.code.length).sum+q:Nat):Int)=(((u.map fun o=>o.code.length).sum:Nat):Int)+(q:Int) by omega];exact ok_link hty (hlk u o v he) ⟨d1,d2⟩ hdn hsy hok j2
   ·unfold lookR at ht;split at ht
    ·rename_i h0;have:=(List.getElem?_eq_some_iff.1 ht).1;omega
    ·cases ht
   ·rw [← hdata,k1];exact ⟨hdn,by omega,by omega,by omega⟩
  ·rename_i h3;have:=congrArg (fun z=>z.2.2) h;exact absurd this h3
noncomputable def rolesT (s:ByteArray):List Rl:=by
 classical exact if h:∃ RS,TyOb (obT s).code (obT s).data (obT s).exps (obT s).pats RS∧((∃ l pl e,Sc.scanD 0 (Sc.txt s)=(l,pl,e)∧mSees [112,114,111,103,114,97,109] (cs0 l ((Sc.txt s).length:Int))=true)→RS[0]? = some .go) then h.choose else []
def mainT (s:ByteArray):Prop:=∃ l pl e,Sc.scanD 0 (Sc.txt s)=(l,pl,e)∧mSees [112,114,111,103,114,97,109] (cs0 l ((Sc.txt s).length:Int))=true
theorem rolesT_ok {s:ByteArray} (h:(compF (Sc.txt s)).2.2=0):TyOb (obT s).code (obT s).data (obT s).exps (obT s).pats (rolesT s)∧(mainT s→(rolesT s)[0]? = some .go):=by
 have hex:∃ RS,TyOb (obT s).code (obT s).data (obT s).exps (obT s).pats RS∧((∃ l pl e,Sc.scanD 0 (Sc.txt s)=(l,pl,e)∧mSees [112,114,111,103,114,97,109] (cs0 l ((Sc.txt s).length:Int))=true)→RS[0]? = some .go):=by
  obtain ⟨o,ho⟩:=comp_some h;obtain ⟨RS,h1,h2⟩:=comp_ty ho;have he:obT s=obOf o ax0:=by unfold obT compO;rw [ho];rfl
  rw [he];exact ⟨RS,h1,h2⟩
 unfold rolesT;rw [dif_pos hex];exact hex.choose_spec
where
 comp_some {s:List UInt8} (h:(compF s).2.2=0):∃ o,compF s=(some o,0,0):=by
  unfold compF at h ⊢;rcases hsc:Sc.scanD 0 s with ⟨l,pl,e⟩
  rw [hsc] at h;dsimp only at h ⊢;by_cases he:e≠0
  ·rw [if_pos he] at h;exact absurd h he
  rw [if_neg he] at h ⊢;generalize (if (mProgram (l.length+1) (cs0 l (s.length:Int))).e=0∧(mProgram (l.length+1) (cs0 l (s.length:Int))).code.length>4096 then mStop 4 (s.length:Int) (mProgram (l.length+1) (cs0 l (s.length:Int))) else mProgram (l.length+1) (cs0 l (s.length:Int)))=c2 at *;by_cases hc:c2.e≠0
  ·rw [if_pos hc] at h;exact absurd h hc
  ·rw [if_neg hc];exact ⟨_,rfl⟩
theorem badF_all:∀ (l:List ByteArray) (k:Nat),badF k l=none→∀ s∈l,(compF (Sc.txt s)).2.2=0
 | [],k,_,s,hs=>by cases hs
 | a::l,k,h,s,hs=>by
  unfold badF at h;split at h
  ·cases h
  ·rename_i h1;rcases List.mem_cons.1 hs with rfl | hs
   ·exact Classical.not_not.1 h1
   ·exact badF_all l (k+1) h s hs
theorem build_ty {texts:List ByteArray} {mem:Int} (h:(buildF texts mem).e=0):∃ (D N:Nat) (rl:Int→Option Rl),(buildF texts mem).mem=(N:Int)∧mem=(N:Int)∧D≤N∧N≤32000∧TyC (buildF texts mem).ic D N rl∧(buildF texts mem).ic.length≤4096∧(∃ pl,reorgF (buildF texts mem).ic=((buildF texts mem).code,pl,0))∧(∀ s r,texts=s::r→mainT s→rl 0=some .go):=by
 unfold buildF at h ⊢;cases hb:badF 0 texts with
 | some x=>
  obtain ⟨k,pl,e⟩:=x;rw [hb] at h;have h:e=0:=h;exfalso
  have:∀ (l:List ByteArray) (k:Nat) (x:Nat×Int×Int),badF k l=some x→x.2.2≠0:=by
   intro l
   induction l with
   | nil=>intro k x hx;cases hx
   | cons a l ih=>
    intro k x hx;unfold badF at hx;split at hx
    ·rename_i h1;cases hx;exact h1
    ·exact ih _ _ hx
  exact this _ _ _ hb h
 | none=>
  rw [hb] at h;dsimp only at h ⊢;by_cases h1:(linkF (texts.map obT) mem).2.2≠0
  ·rw [if_pos h1] at h;exact absurd h h1
  rw [if_neg h1] at h ⊢;by_cases h2:(reorgF (linkF (texts.map obT) mem).1).2.2≠0
  ·rw [if_pos h2] at h;exact absurd h h2
  rw [if_neg h2] at h ⊢;dsimp only;have hall:=badF_all texts 0 hb
  have hgT:∃ g:Ob→List Rl,(∀ o∈texts.map obT,TyOb o.code o.data o.exps o.pats (g o))∧∀ s r,texts=s::r→mainT s→(g (obT s))[0]? = some .go:=by
   classical
   refine ⟨fun o=>if h:∃ s∈texts,obT s=o∧(mainT s∨∀ q∈texts,obT q=o→¬ mainT q) then rolesT h.choose else [],fun o ho=>?_,fun s r hs hm=>?_⟩
   ·obtain ⟨s0,hs0,rfl⟩:=List.mem_map.1 ho
    have hex:∃ s∈texts,obT s=obT s0∧(mainT s∨∀ q∈texts,obT q=obT s0→¬ mainT q):=by
     by_cases hq:∃ q∈texts,obT q=obT s0∧mainT q
     ·obtain ⟨q,q1,q2,q3⟩:=hq;exact ⟨q,q1,q2,.inl q3⟩
     ·exact ⟨s0,hs0,rfl,.inr fun q q1 q2 q3=>hq ⟨q,q1,q2,q3⟩⟩
    dsimp only;rw [dif_pos hex];obtain ⟨c1,c2,_⟩:=hex.choose_spec;have:=(rolesT_ok (hall _ c1)).1;rw [c2] at this;exact this
   ·have hst:s∈texts:=by rw [hs];exact List.mem_cons_self
    have hex:∃ s'∈texts,obT s'=obT s∧(mainT s'∨∀ q∈texts,obT q=obT s→¬ mainT q):=⟨s,hst,rfl,.inl hm⟩
    dsimp only;rw [dif_pos hex];obtain ⟨c1,c2,c3⟩:=hex.choose_spec
    have hm2:mainT hex.choose:=by
     rcases c3 with c3 | c3
     ·exact c3
     ·exact absurd hm (c3 s hst rfl)
    exact (rolesT_ok (hall _ c1)).2 hm2
  obtain ⟨g,hg,hgo⟩:=hgT
  obtain ⟨t1,t2,t3,t4,t5⟩:=link_ty (g:=g) hg (mem:=mem) (data:=(linkF (texts.map obT) mem).2.1) (code:=(linkF (texts.map obT) mem).1) (by
   rw [← Classical.not_not.1 h1])
  obtain ⟨N,hN⟩:∃ N:Nat,mem=N:=⟨mem.toNat,by omega⟩
  obtain ⟨D,hD⟩:∃ D:Nat,(linkF (texts.map obT) mem).2.1=D:=⟨(linkF (texts.map obT) mem).2.1.toNat,by omega⟩
  refine ⟨D,N,lookR ((texts.map obT).flatMap g),hN,hN,by omega,by omega,?_,t5,⟨(reorgF (linkF (texts.map obT) mem).1).2.1,?_⟩,fun s r hs hm=>?_⟩
  ·rw [← hD,← hN];exact t1
  ·rw [← Classical.not_not.1 h2]
  ·have h5:=hgo s r hs hm;rw [show (0:Int)=((0:Nat):Int) from rfl,lookR_nat,hs,List.map_cons,List.flatMap_cons,List.getElem?_append_left (List.getElem?_eq_some_iff.1 h5).1,h5]
end Go.Proofs.YtkolmklfgbimoaaGreatDoor.Cm
namespace Go.Proofs.YtkolmklfgbimoaaGreatDoor
open Go
def mddC:List In:=[⟨17,0,0,0,1⟩,⟨10,29,0,0,20⟩,⟨20,0,0,0,1⟩,⟨13,4,0,0,0⟩,⟨12,8,0,0,0⟩,⟨10,9,0,0,0⟩,⟨8,8,9,8,0⟩,⟨15,8,0,0,10⟩,⟨20,0,0,0,1⟩,⟨13,4,0,0,1⟩,⟨12,8,0,0,1⟩,⟨1,4,8,0,0⟩,⟨18,0,0,0,19⟩,⟨12,8,0,0,0⟩,⟨10,9,0,0,1⟩,⟨2,8,8,9,0⟩,⟨13,8,0,0,0⟩,⟨17,0,0,0,4⟩,⟨20,0,0,0,0⟩,⟨10,29,29,0,-3⟩,⟨10,1,29,0,-3⟩,⟨14,1,7,0,32767⟩,⟨13,31,29,0,0⟩,⟨13,30,29,0,1⟩,⟨10,30,29,0,0⟩,⟨13,4,30,0,2⟩,⟨12,8,0,0,2⟩,⟨12,9,30,0,2⟩,⟨1,8,8,9,0⟩,⟨13,8,0,0,2⟩,⟨12,8,0,0,2⟩,⟨1,4,8,0,0⟩,⟨20,0,0,0,2⟩,⟨10,29,30,0,3⟩,⟨12,31,30,0,0⟩,⟨12,30,30,0,1⟩,⟨19,31,0,0,0⟩]
def mddS (r1 r4 r8 r9 r31 k x a f17 f19:Int) (I O:List Int):MS:=⟨[0,r1,0,0,r4,0,0,0,r8,r9,0,0,0,0,0,0,0,0,0,0,0,0,0,0,0,0,0,0,0,20,0,r31],[k,x,a,0,0,0,0,0,0,0,0,0,0,0,0,0,0,f17,0,f19],4,I,O⟩
theorem mdd_round (r1 r4 r8 r9 r31 x a f17 f19 v s:Int) (k:Nat) (I O:List Int) (hk:k<100) (hv:w32 v=v) (ha:w32 a=a) (hs:w32 (a+v)=s) (hs2:w32 s=s) (ho:¬ 10000≤O.length):∃ b1 b4 b8 b9 b31 c17 c19,Goes mddC 32 (mddS r1 r4 r8 r9 r31 ((k+1:Nat):Int) x a f17 f19 (v::I) O) (mddS b1 b4 b8 b9 b31 (k:Int) v s c17 c19 I (O++[s])):=by
 have h0:(0:Int)<(k:Int)+1:=by omega
 have h1:w32 ((k:Int)+1)=(k:Int)+1:=w32_id (by omega);have h2:w32 (k:Int)=(k:Int):=w32_id (by omega);have h3:((k:Int)+1-1)=(k:Int):=by omega
 have e1:w32 20=20:=w32_id (by decide);have e2:w32 17=17:=w32_id (by decide);have e3:w32 14=14:=w32_id (by decide);have e4:w32 18=18:=w32_id (by decide);have e5:w32 19=19:=w32_id (by decide);have e6:w32 13=13:=w32_id (by decide);have e7:w32 2=2:=w32_id (by decide);unfold mddS;rw [Int.natCast_add,show ((1:Nat):Int)=1 from rfl];refine ⟨?b1,?b4,?b8,?b9,?b31,?c17,?c19,?d9⟩
 case d9=>
  iterate 32 (refine Goes.more (goes1 rfl rfl (by first | rfl | assumption) (by simp [stepI,actQ,sysQ,loadQ,reckonQ,reckQ,nextQ,rgQ,setQ,w32_w32,w32_tru,truQ_t,truQ_f,w32_0,w32_1,List.getD,h0,h1,h2,h3,hv,ha,hs,hs2,ho,e1,e2,e3,e4,e5,e6,e7];try rfl)) ?_)
  exact Goes.rf _ _
def sumL:Int→List Int→List Int
 | _,[]=>[]
 | a,v::l=>w32 (a+v)::sumL (w32 (a+v)) l
theorem sumL_len:∀ (l:List Int) (a:Int),(sumL a l).length=l.length
 | [],_=>rfl
 | v::l,a=>by rw [sumL,List.length_cons,List.length_cons,sumL_len l]
theorem mdd_loop:∀ (l:List Int) (r1 r4 r8 r9 r31 x a f17 f19:Int) (O:List Int),l.length≤60→O.length+l.length≤1000→(∀ v∈l,w32 v=v)→w32 a=a→∃ b1 b4 b8 b9 b31 c d e f,Goes mddC (32*l.length) (mddS r1 r4 r8 r9 r31 (l.length:Int) x a f17 f19 l O) (mddS b1 b4 b8 b9 b31 0 c d e f [] (O++sumL a l))
 | [],r1,r4,r8,r9,r31,x,a,f17,f19,O,_,_,_,_=>⟨r1,r4,r8,r9,r31,x,a,f17,f19,by rw [sumL,List.append_nil];exact Goes.rf _ _⟩
 | v::l,r1,r4,r8,r9,r31,x,a,f17,f19,O,h1,h2,h3,h4=>by
  simp only [List.length_cons] at h1 h2 ⊢;have hv:=h3 v (by simp);obtain ⟨b1,b4,b8,b9,b31,c17,c19,hr⟩:=mdd_round r1 r4 r8 r9 r31 x a f17 f19 v (w32 (a+v)) l.length l O (by omega) hv h4 rfl (w32_w32 _) (by omega);obtain ⟨d1,d4,d8,d9,d31,c,d,e,f,hl⟩:=mdd_loop l b1 b4 b8 b9 b31 v (w32 (a+v)) c17 c19 (O++[w32 (a+v)]) (by omega) (by simp;omega) (fun u hu=>h3 u (by simp [hu])) (w32_w32 _);rw [List.append_assoc] at hl;exact ⟨d1,d4,d8,d9,d31,c,d,e,f,hr.tr hl (by omega)⟩
theorem mdd_start (n:Int) (l:List Int) (hn:w32 n=n):Goes mddC 4 (ms0 20 (n::l)) (mddS 0 n 0 0 0 n 0 0 0 0 l []):=by
 have w20:w32 20=20:=w32_id (by decide);rw [ms20];unfold mddS
 iterate 4 (refine Goes.more (goes1 rfl rfl (by first | rfl | assumption) (by simp [stepI,actQ,sysQ,loadQ,reckonQ,reckQ,nextQ,rgQ,setQ,w32_w32,w32_tru,truQ_t,truQ_f,w32_0,w32_1,List.getD,hn,w20];try rfl)) ?_)
 exact Goes.rf _ _
theorem mdd_end (r1 r4 r8 r9 r31 x a f17 f19:Int) (O:List Int):∃ m,Goes mddC 4 (mddS r1 r4 r8 r9 r31 0 x a f17 f19 [] O) m∧Stops mddC m 1 O:=by
 unfold mddS;refine ⟨?m7,?a7,?b7⟩
 case a7=>
  iterate 4 (refine Goes.more (goes1 rfl rfl (by first | rfl | assumption) (by simp [stepI,actQ,sysQ,loadQ,reckonQ,reckQ,nextQ,rgQ,setQ,w32_w32,w32_tru,truQ_t,truQ_f,w32_0,w32_1,List.getD];try rfl)) ?_)
  exact Goes.rf _ _
 exact fun f hf=>⟨_,stop1 rfl rfl rfl (by simp [stepI,actQ,sysQ,loadQ,reckonQ,reckQ,nextQ,rgQ,setQ,w32_w32,w32_tru,truQ_t,truQ_f,w32_0,w32_1,List.getD];try rfl) (by decide) hf,rfl⟩
theorem mdd_run (l:List Int) (hl:l.length≤30) (h:∀ v∈l,w32 v=v):∃ n u,seqQ mddC (20:Nat) ((l.length:Int)::l) (5000:Nat)=(1,n,sumL 0 l,u)∧n≤1000∧0≤n:=by
 obtain ⟨b1,b4,b8,b9,b31,c,d,e,f,h1⟩:=mdd_loop l 0 (l.length:Int) 0 0 0 0 0 0 0 [] (by omega) (by simp;omega) h (w32_id (by decide));obtain ⟨m,h2,h3⟩:=mdd_end b1 b4 b8 b9 b31 c d e f ([]++sumL 0 l);have h4:=((mdd_start (l.length:Int) l (w32_id (by omega))).tr h1 rfl).tr h2 rfl;obtain ⟨u,hu⟩:=seq_exN (n:=20) (fuel:=5000) (by decide) (by decide) h4 h3 (by omega);exact ⟨_,u,hu,by omega,by omega⟩
end Go.Proofs.YtkolmklfgbimoaaGreatDoor
namespace Go.Proofs.YtkolmklfgbimoaaGreatDoor
open Go Go.Sx Go.Sx.Chunk
def beT:List UInt8:=[112,114,111,103,114,97,109,32,97,59,32,118,97,114,32,110,59,32,118,97,114,32,120,59,32,98,101,103,105,110,32,114,101,97,100,32,110,59,32,119,104,105,108,101,32,110,32,62,32,48,32,100,111,32,114,101,97,100,32,120,59,32,119,114,105,116,101,32,120,59,32,110,32,58,61,32,110,32,45,32,49,32,101,110,100,32,101,110,100,46]
def bmT1:List UInt8:=[112,114,111,103,114,97,109,32,97,59,32,118,97,114,32,110,59,32,118,97,114,32,120,59,32,101,120,116,101,114,110,97,108,32,115,117,109,40,110,41,59,32,98,101,103,105,110,32,114,101,97,100,32,110,59,32,119,104,105,108,101,32,110,32,62,32,48,32,100,111,32,114,101,97,100,32,120,59,32,115,117,109,40,120,41,59,32,110,32,58,61,32,110,32,45,32,49,32,101,110,100,32,101,110,100,46]
def bmT2:List UInt8:=[109,111,100,117,108,101,32,98,59,32,118,97,114,32,97,108,108,59,32,112,114,111,99,101,100,117,114,101,32,115,117,109,40,110,41,59,32,98,101,103,105,110,32,97,108,108,32,58,61,32,97,108,108,32,43,32,110,59,32,119,114,105,116,101,32,97,108,108,32,101,110,100,59,32,101,110,100,46]
def bFact (texts:List ByteArray) (code:List In):Bool:=(let r:=buildF texts 20;decide (r.ic=code) && (r.mem == 20 && (r.n == 0 && (r.pl == 0 && r.e == 0))))
def mFact (s:ByteArray):Bool:=(let r:=Sc.scanD 0 (Sc.txt s);Cm.mSees [112,114,111,103,114,97,109] (Cm.cs0 r.1 ((Sc.txt s).length:Int)))
theorem mFact_main {s:ByteArray} (h:mFact s=true):Cm.mainT s:=⟨_,_,_,rfl,h⟩
theorem be_fact:bFact [Sc.bs beT] eccC=true:=by decide +kernel
theorem bm_fact:bFact [Sc.bs bmT1,Sc.bs bmT2] mddC=true:=by decide +kernel
theorem be_main:mFact (Sc.bs beT)=true:=by decide +kernel
theorem bm_main:mFact (Sc.bs bmT1)=true:=by decide +kernel
theorem bFact_runs {s:ByteArray} {r:List ByteArray} {code:List In} (h:bFact (s::r) code=true) (hm:mFact s=true) {inp out u:List Int} {n:Int} (hs:seqQ code (20:Nat) inp (5000:Nat)=(1,n,out,u)) (hn:n≤1000) (h0:0≤n) (hc:code.length≤100) :
  ∃ b,buildF (s::r) 20=b∧b.e=0∧b.n=0∧b.pl=0∧b.mem=20∧seqQ b.ic b.mem inp 5000=(1,n,out,u)∧∃ n2 u2,pipQ b.code b.mem inp 9000=(1,n2,out,u2):=by
 unfold bFact at h;simp only [Bool.and_eq_true,beq_iff_eq,decide_eq_true_eq] at h;obtain ⟨f1,f2,f3,f4,f5⟩:=h;obtain ⟨D,N,rl,t1,t2,t3,t4,t5,t6,⟨pl,t7⟩,t8⟩:=Cm.build_ty f5;have hN:N=20:=by omega
 subst hN;have hgo:=t8 s r rfl (mFact_main hm);have hs2:seqQ (buildF (s::r) 20).ic (20:Nat) inp (5000:Nat)=(1,n,out,u):=by rw [f1];exact hs
 obtain ⟨n2,u2,hp,_⟩:=both_run (fuel2:=9000) t5 hgo t3 t7 hs2 (by decide) (by rw [f1];omega);refine ⟨_,rfl,f5,f3,f4,f2,?_,n2,u2,?_⟩
 ·rw [f1,f2];exact hs
 ·rw [f2];exact hp
section
variable {IA:Addr} {L:List Int} {k:Kq}
theorem writeP_inp (m:PS):(writeP m).inp=m.inp:=by unfold writeP;split <;> rfl
theorem writeP_out (m:PS):(writeP m).out=m.out:=by unfold writeP;split <;> rfl
theorem writeP_mem (m:PS):(writeP m).mem=m.mem:=by unfold writeP;split <;> rfl
theorem cycPC (c:Nat) (code:List In) (m:PS) (x:Aq) {st:Int} (hs:0≤st∧st≤100000000) (hk:k.cn=code.length) (hc:code.length≤1000000) (hm:OkP k st m) (hx:OkPn IA L m x):FnC Tryz.prog 57 [qP c] (mpH c k m x) [rng k.ca (insC code),inB IA L] (fun _=>.int .i64 (cycP code m).1) (fun y:Aq=>mpH c k (cycP code m).2 y) (fun y=>OkPn IA L (cycP code m).2 y):=by
 have h1:=writePC (k:=k) (m:=m) (x:=x) c hm.rl hm.a.reg;have hm1:=hm.write;have e1:=writeP_inp m;have e2:=writeP_out m;have e3:=writeP_mem m;unfold cycP;generalize writeP m=m1 at *;have h2:=actPC (IA:=IA) (L:=L) (k:=k) c m1 x hm1 (hx.same e1 rfl rfl);have hm2:=hm1.act;dsimp only;generalize actP m1=r at *;obtain ⟨tr,m2⟩:=r;dsimp only at *;have h3:=fun y=>reckPC (k:=k) c m1.k m2 y hm2 hm1.k
 have hm3:=hm2.reck hm1.k;have e4:(reckP m1.k m2).inp=m2.inp:=rfl;have e5:(reckP m1.k m2).out=m2.out:=rfl;have e6:(reckP m1.k m2).mem=m2.mem:=rfl;generalize reckP m1.k m2=m3 at *;have h4:=fun y=>decPC (k:=k) c m3 y hs hm3
 have e7:(decP m3).2.inp=m3.inp:=rfl;have e8:(decP m3).2.out=m3.out:=rfl;have e9:(decP m3).2.mem=m3.mem:=rfl;generalize decP m3=d at *;obtain ⟨nx,m4⟩:=d;dsimp only at *;have h5:=fun y=>fetPC (k:=k) c nx code hk hc m4 y
 have e10:(fetP code nx m4).inp=m4.inp:=rfl;have e11:(fetP code nx m4).out=m4.out:=rfl;have e12:(fetP code nx m4).mem=m4.mem:=rfl;generalize fetP code nx m4=m5 at *;unfold mpH qP ltG at *;refine fn_intro Tryz.func57 Tryz.ntmps57 rfl rfl rfl (fun w0=>?_);refine rrs ?_;refine cl (h1) ?_;intro _ _;try simp only [Sx.ap1,Sx.ap2,Sx.ap3]
 rw [← e3,← e2];refine rr ?_;intro b1 _;refine rr ?_;refine cl (h2) ?_;intro y hy;refine rrs ?_;refine cl (h3 y) ?_;intro _ _;refine rrs ?_;refine cl (h4 y) ?_;intro _ _;refine rrs ?_;refine cl (h5 y) ?_;intro _ _;refine rrs ?_;rw [← e6,← e5,← e9,← e8,← e12,← e11];exact en y (hy.same (e10.trans (e7.trans e4)) rfl rfl)
end
theorem runP_zero (code:List In) (m:PS):runP code 0 m=(0,0,m):=rfl
theorem runP_succ (code:List In) (f:Nat) (m:PS):runP code (f+1) m=if (cycP code m).1=0 then ((runP code f (cycP code m).2).1,(runP code f (cycP code m).2).2.1+1,(runP code f (cycP code m).2).2.2) else ((cycP code m).1,1,(cycP code m).2):=rfl
theorem pipC (ca0:Option Addr) (cc:Nat) (code:List In) (mem:Int) (ia:Option Addr) (ic:Nat) (inp:List Int) (fuel:Int) (hf:fuel≤100000000) (hil:inp.length≤1000000):FnC Tryz.prog 24 [.slice ca0 code.length cc,.int .i64 mem,.slice ia inp.length ic,.int .i64 fuel] [] [rng ca0 (insC code),rng ia (i64C inp)] (fun z=>resG (pipQ code mem inp fuel) z) (fun z=>resH (pipQ code mem inp fuel) z) (fun _=>True):=by
 unfold pipQ;by_cases hbad:mem<0∨32000<mem
 ·rw [if_pos (by omega)];have h1:=newBad mem hbad;unfold resG resH;by_cases hcl:(code.length:Int)>4096
  ·skip
   refine fn_intro Tryz.func24 Tryz.ntmps24 rfl rfl rfl (fun w0=>?_);refine rrs ?_;intro b8 _;refine rr ?_;refine cl (h1) ?_;intro _ _;refine rrs ?_;exact en (none,0,none,0) trivial
  ·skip
   refine fn_intro Tryz.func24 Tryz.ntmps24 rfl rfl rfl (fun w0=>?_);refine rrs ?_;intro b8 _;refine rr ?_;refine cl (h1) ?_;intro _ _;refine rrs ?_;exact en (none,0,none,0) trivial
 ·obtain ⟨n,rfl⟩:∃ n:Nat,mem=n:=⟨mem.toNat,by omega⟩
  have h1:=newOk n (by omega);by_cases hcl:(code.length:Int)>4096
  ·rw [if_pos (by omega)];unfold resG resH;unfold memH mP at h1;refine fn_intro Tryz.func24 Tryz.ntmps24 rfl rfl rfl (fun w0=>?_);refine rrs ?_;intro b8 _;refine rr ?_;refine cl (h1) ?_;intro _ _;refine rrs ?_;exact en (none,0,none,0) trivial
  ·rw [if_neg (by omega)];have h2:=cloneIC ia ic inp (by omega);rw [Int.toNat_natCast];generalize hR:runP code fuel.toNat (ps0 n inp)=R;dsimp only;unfold memH mP at h1;have hus:=fun (mm g:Nat) (l:List Int) (hl:l.length=n)=>usedC mm g n l (by omega) hl
   unfold memH mP at hus;refine fn_intro Tryz.func24 Tryz.ntmps24 rfl rfl rfl (fun w0=>?_);refine rrs ?_;intro b8 _;refine rr ?_;refine cl (h1) ?_;intro ⟨mm,g⟩ _;refine rrs ?_;refine cl (h2) ?_;intro ⟨ja,jc⟩ _;refine rrs ?_;intro c _;refine rr ?_;intro b11 _;refine rr ?_;have hstep:=fun IA L m x (st:Int) (hst:0≤st∧st≤100000000) (h1:OkP ⟨ca0,code.length,cc,mm,g,n⟩ st m) (h2:OkPn IA L m x)=>cycPC c code m x hst rfl (by omega) h1 h2
   unfold mpH qP at hstep;dsimp only at hstep;refine hv ([blk c (pmC ⟨ca0,code.length,cc,mm,g,n⟩ (ps0 n inp) ⟨ja,jc,none,0⟩) 136,blk mm [.slice (some ⟨g,0,none⟩) n n] 190,row (some ⟨g,0,none⟩) n 3 1 n (i64C (ps0 n inp).mem),row none 0 3 1 0 (i64C []),blk b11 [.int .i64 0,.int .i64 ((0:Nat):Int),.slice none 0 0,.slice none 0 0] 54,row ja jc 3 1 inp.length (i64C inp),blk b8 [.int .i64 0,.int .i64 0,.slice none 0 0,.slice none 0 0] 54,rng ca0 (insC code),rng ia (i64C inp)]) ?_;refine w_use (fun w hw=>(hw.pick 5 rfl).row_cap) fun hcap=>?_
   refine w_use (p:=inp≠[]→∃ g1,ja=some ⟨g1,0,none⟩) (fun w hw h=>(hw.pick 5 rfl).row_some (List.length_pos_iff.2 h)) fun hsome=>?_
   obtain ⟨g1,hIA⟩:∃ g1:Nat,inp≠[]→ja=some ⟨g1,0,none⟩:=by
    by_cases h:inp=[]
    ·exact ⟨0,fun h2=>absurd h h2⟩
    ·obtain ⟨g1,hg1⟩:=hsome h;exact ⟨g1,fun _=>hg1⟩
   have hlend:∀ (R:List Chunk) (j:Nat),nthC R j=some (row ja jc 3 1 inp.length (i64C inp))→LendsAll R [inB ⟨g1,0,none⟩ inp]:=fun R j hj=>by
    by_cases h:inp=[]
    ·rw [h];exact lend_nil trivial
    ·rw [hIA h] at hj;exact lend_row hj trivial
   refine lo [3,8,9,10,11] (fun z:Nat×Int×PS×Aq=>[]) (fun z=>[(0,blk c (pmC ⟨ca0,code.length,cc,mm,g,n⟩ z.2.2.1 z.2.2.2) 136),(2,row (some ⟨g,0,none⟩) n 3 1 n (i64C z.2.2.1.mem)),(3,row z.2.2.2.oa z.2.2.2.oc 3 1 z.2.2.1.out.length (i64C z.2.2.1.out)),(4,blk b11 [.int .i64 z.2.1,.int .i64 (z.1:Int),.slice none 0 0,.slice none 0 0] 54)])
    (fun z=>OkP ⟨ca0,code.length,cc,mm,g,n⟩ (z.1:Int) z.2.2.1∧OkPn ⟨g1,0,none⟩ inp z.2.2.1 z.2.2.2∧z.1≤fuel.toNat∧(z.2.1=0→R=((runP code (fuel.toNat-z.1) z.2.2.1).1,(runP code (fuel.toNat-z.1) z.2.2.1).2.1+z.1,(runP code (fuel.toNat-z.1) z.2.2.1).2.2))∧(z.2.1≠0→R=(z.2.1,(z.1:Int),z.2.2.1))) (fun z=>fuel.toNat-z.1+(if z.2.1=0 then 1 else 0)) (0,0,ps0 n inp,⟨ja,jc,none,0⟩) ⟨okp0 _ _ _ _ _ _ _ (by omega),⟨fun h=>⟨0,rfl,by rw [hIA h];rfl⟩,hcap⟩,Nat.zero_le _,fun _=>by rw [← hR];simp,fun h=>absurd rfl h⟩ ?_
   rintro ⟨st,tr,m,y⟩ ⟨hm,hin,hst,hr0,hr1⟩ K1 hK1;dsimp only at hm hin hst hr0 hr1 ⊢;by_cases hgo:tr=0∧(st:Int)<fuel
   ·obtain ⟨htr,hlt⟩:=hgo;subst htr;have hr0:=hr0 rfl;obtain ⟨f,hf1⟩:∃ f,fuel.toNat-st=f+1:=⟨fuel.toNat-st-1,by omega⟩
    rw [hf1,runP_succ] at hr0;have hs:=hstep ⟨g1,0,none⟩ inp m y st (by omega) hm hin;have hms:=hm.cyc (code:=code) (by omega) (by omega);generalize cycP code m=q at *;obtain ⟨tr2,m2⟩:=q;dsimp only at hs hms hr0;refine rr ?_;refine cl (hs) ?_ (hl:=lend_cons rfl (by repeat (first | exact find_here | apply find_there)) (hlend _ _ (by repeat (first | exact find_here | apply find_there))));intro y2 hy2;simp only [List.cons_append,List.nil_append];refine rr ?_;refine ro hK1 (st+1,tr2,m2,y2) ⟨hms,hy2,by dsimp only;omega,?_,?_⟩ (hμ:=?_)
    ·intro h;dsimp only at h ⊢;rw [if_pos h] at hr0;rw [show fuel.toNat-(st+1)=f by omega,hr0];simp only [Prod.mk.injEq,true_and,and_true];omega
    ·intro h;dsimp only at h ⊢;rw [if_neg h] at hr0;rw [hr0];simp only [Prod.mk.injEq,true_and,and_true];omega
    ·dsimp only;split <;> split <;> omega
   ·have hR2:R=(tr,(st:Int),m):=by
     by_cases h0:tr=0
     ·have h1:=hr0 h0;rw [show fuel.toNat-st=0 by omega,runP_zero] at h1;rw [h1,h0];simp
     ·exact hr1 h0
    rw [hR2];dsimp only;have hus:=hus mm g m.mem hm.ml;unfold resG resH;by_cases h0:tr=0
    ·have hge:¬ (st:Int)<fuel:=fun h=>hgo ⟨h0,h⟩
     refine rr ?_;refine dr [0,1,2,3,4,6,5,7,8,9] [3] [0] ?_;refine rr ?_;refine cld (hus) ?_;intro z _;refine rrs ?_;exact en (y.oa,y.oc,z.1,z.2) trivial
    ·skip
     refine rr ?_;refine dr [0,1,2,3,4,6,5,7,8,9] [3] [0] ?_;refine rr ?_;refine cld (hus) ?_;intro z _;refine rrs ?_;exact en (y.oa,y.oc,z.1,z.2) trivial
end Go.Proofs.YtkolmklfgbimoaaGreatDoor
namespace Go.Sx
open Go Chunk
open Go.ChangeShapes Go.WideShapes Go.RowKit
section
set_option maxRecDepth 512
section
variable {H:Type} {enc:TypeId×Value→H} {P:Program} {w:World} {base b0:Nat} {spare:Nat→Bool} {held:Bool} {r:Reach}
def Light (P:Program) (t:TypeId) (d:DataW H):Prop:=∀ n∈d.weights P t,n≤reachBytes
def DecW (enc:TypeId×Value→H) (P:Program) (w:World) (base:Nat) (spare:Nat→Bool) (held:Bool) (t:TypeId) {α:Type} (cells:α→List Value) (ok:α→Prop) (seen:α→List Chunk):Prop:=
 ∀ (fuel:Nat) (cs:List Value) (x:DataW H×List MemPlace),DataW.trod enc P w base spare held fuel t cs=some x→Light P t x.1→∃ a:α,cs=cells a∧ok a∧Seen w (seen a)
theorem decW_of {t:TypeId} {α:Type} {cells:α→List Value} {ok:α→Prop} {seen:α→List Chunk} (h:Dec enc P w base spare held t cells ok seen):DecW enc P w base spare held t cells ok seen:=fun fuel cs x hx _=>h fuel cs x hx
theorem weightsAll_mem {e:TypeId}:∀ {l:List (DataW H)} {d:DataW H},d∈l→∀ n∈d.weights P e,n∈DataW.weightsAll P e l
 | [],d,h,n,hn=>by simp at h
 | y::l,d,h,n,hn=>by
  simp only [DataW.weightsAll,List.mem_append];rcases List.mem_cons.1 h with rfl | h
  ·exact .inl hn
  ·exact .inr (weightsAll_mem h n hn)
theorem decW_slice {t e:TypeId} {α:Type} {cells:α→List Value} {ok:α→Prop} {seen:α→List Chunk} {sz bz:Nat} (ht:P.underlying t=some (.slice e)) (hsz:P.cellsOf e=sz) (hbz:P.bytesOf e=bz) (hpos:0<sz) (hc:∀ a,(cells a).length=sz) (hd:DecW enc P w base spare held e cells ok seen) :
  DecW enc P w base spare held t (fun x:Option Addr×Nat×List α=>[.slice x.1 x.2.2.length x.2.1]) (fun x=>(x.2.2.length≤x.2.1∧x.2.1≤maxLen∧x.2.2.length*bz≤reachBytes)∧∀ a∈x.2.2,ok a) (fun x=>rng x.1 (x.2.2.flatMap cells)::x.2.2.flatMap seen):=fun fuel cs x h hlight=>by
 have hlt:=DataW.trod_lt fuel t cs x h;rcases DataW.trod_slice ht h with ⟨rfl,_⟩ | ⟨a,len,cap,elems,rest,n,_,rfl,rfl,hb,hl,hm,hlen,hel,hsp,hns⟩
 ·exact ⟨(none,0,[]),rfl,⟨⟨Nat.le_refl _,by unfold maxLen;exact Nat.zero_le _,by simp⟩,by simp⟩,⟨rfl,fun j v hj=>by simp at hj,fun k hk=>absurd rfl hk.1⟩,trivial⟩
 ·have hw0:∀ n∈DataW.weights P t (.slice (elems.map (·.1)) (rest.map (·.1)):DataW H),n≤reachBytes:=hlight;have hw1:(elems.length+rest.length)*bz≤reachBytes:=hw0 _ (by simp [DataW.weights,ht,hbz])
  have each:∀ i,i<len→∃ b:α,(∀ j v,(cells b)[j]? = some v→w.cell? (a.add (i*sz+j))=some v)∧ok b∧Seen w (seen b):=by
   intro i hi;have h1:=hel i hi;rw [hsz,List.getElem?_eq_getElem (by omega),Option.bind_eq_some_iff] at h1;obtain ⟨cs',hcs,hy⟩:=h1
   obtain ⟨b,rfl,hok,hseen⟩:=hd n cs' _ hy (fun n hn=>hw0 n (by
    simp only [DataW.weights,ht,List.mem_cons,List.mem_append];exact .inr (.inl (weightsAll_mem (List.mem_map.2 ⟨elems[i],List.getElem_mem _,rfl⟩) n hn))))
   refine ⟨b,fun j v hj=>?_,hok,hseen⟩;obtain ⟨_,h2,h3⟩:=World.cells?_some hcs;have hj':=(List.getElem?_eq_some_iff.1 hj).1;have:=h3 j (by rw [hc] at hj';omega);rw [add_add] at this;rw [this,hj]
  have key:∀ m,m≤len→∃ l:List α,l.length=m∧(∀ b∈l,ok b∧Seen w (seen b))∧∀ j v,(l.flatMap cells)[j]? = some v→w.cell? (a.add j)=some v:=by
   intro m
   induction m with
   | zero=>exact fun _=>⟨[],rfl,by simp,by simp⟩
   | succ m ih=>
    intro hm';obtain ⟨l,hl1,hl2,hl3⟩:=ih (by omega);obtain ⟨b,hb1,hb2,hb3⟩:=each m (by omega);refine ⟨l++[b],by simp [hl1],?_,?_⟩
    ·intro c hc';rcases List.mem_append.1 hc' with hc' | hc'
     ·exact hl2 c hc'
     ·simp only [List.mem_singleton] at hc';subst hc';exact ⟨hb2,hb3⟩
    ·intro j v hj;rw [List.flatMap_append,List.flatMap_cons,List.flatMap_nil,List.append_nil] at hj;have hfl:=flat_len hc l;rw [hl1] at hfl;by_cases hjl:j<m*sz
     ·rw [List.getElem?_append_left (by omega)] at hj;exact hl3 j v hj
     ·rw [List.getElem?_append_right (by omega),hfl] at hj;have:=hb1 (j-m*sz) v hj
      rwa [show m*sz+(j-m*sz)=j by omega] at this
  obtain ⟨l,hl1,hl2,hl3⟩:=key len (Nat.le_refl _);refine ⟨(some a,cap,l),(by show [Value.slice (some a) len cap]=[.slice (some a) l.length cap];rw [hl1]),⟨⟨by dsimp only;omega,hm,?_⟩,fun b hb'=>(hl2 b hb').1⟩,⟨rfl,fun j v hj=>⟨a,rfl,hl3 j v hj⟩,fun k hk=>?_⟩,Seen.flat (fun b hb'=>(hl2 b hb').2)⟩
  ·dsimp only;rw [hl1,← hlen];exact Nat.le_trans (Nat.mul_le_mul_right _ (Nat.le_add_right _ _)) hw1
  ·obtain ⟨hne,a',ha,rfl⟩:=hk;cases ha;have hfl:=flat_len hc l
   have hl0:0<l.length:=by
    rcases Nat.eq_zero_or_pos l.length with h0 | h0
    ·rw [List.length_eq_zero_iff.1 h0] at hne;simp at hne
    ·exact h0
   have:=hlt (.cell a.block (a.off+0)) (by
    refine List.mem_append.2 (.inl ?_);unfold MemPlace.row;refine List.mem_map.2 ⟨0,?_,rfl⟩;rw [List.mem_range,hsz];exact Nat.mul_pos (by omega) hpos)
   exact this
theorem light_arg {ts:List TypeId} {ds:List (DataW H)} (h:(DataW.weightsEach P ts ds).all (· ≤ reachBytes)=true) {j:Nat} {t:TypeId} {d:DataW H} (ht:ts[j]? = some t) (hd:ds[j]? = some d):Light P t d:=fun n hn=>by
 have:=List.all_eq_true.1 h n (DataW.weights_mem_each ht hd n hn)
 simpa using this
theorem arg_sliceW {t e:TypeId} {α:Type} {cells:α→List Value} {ok:α→Prop} {seen:α→List Chunk} {sz bz:Nat} {v:Value} {d:DataW H} {ps:List MemPlace} (ht:P.underlying t=some (.slice e)) (hsz:P.cellsOf e=sz) (hbz:P.bytesOf e=bz) (hpos:0<sz) (hc:∀ a,(cells a).length=sz) (hd:DecW enc P w base spare held e cells ok seen)
  (hv:Value.okWide P w r b0 t v) (h:DataW.Trod enc P w base spare held t v d ps) (hl:Light P t d) :
  ∃ (ao:Option Addr) (cap:Nat) (l:List α),v = .slice ao l.length cap∧l.length≤cap∧cap≤maxLen∧l.length*bz≤reachBytes∧(∀ a∈l,ok a)∧Seen w (rng ao (l.flatMap cells)::l.flatMap seen):=by
 obtain ⟨a0,len,cap,rfl⟩:=okWide_slice ht hv;obtain ⟨fuel,hf⟩:=h;obtain ⟨⟨ao,cap',l⟩,hcs,⟨⟨h1,h2,h3⟩,h4⟩,h5⟩:=decW_slice ht hsz hbz hpos hc hd fuel _ _ hf hl;simp [Value.cells] at hcs;obtain ⟨rfl,rfl,rfl⟩:=hcs;exact ⟨a0,cap,l,rfl,h1,h2,h3,h4,h5⟩
end
end
end Go.Sx
namespace Go.Proofs.YtkolmklfgbimoaaGreatDoor
open Go Go.Sx Go.Sx.Chunk
open Go.ChangeShapes Go.WideShapes Go.RowKit
section
section
variable {H:Type} {enc:TypeId×Value→H} {w:World} {base:Nat} {spare:Nat→Bool} {held:Bool}
end
end
section
structure Bt where
 mk ::
 (ia:Option Addr) (ica:Nat) (ic:List In) (data:Int) (ca:Option Addr) (cca:Nat) (code:List In) (mem:Int)
section
variable {H:Type} {enc:TypeId×Value→H} {w:World} {base:Nat} {spare:Nat→Bool} {held:Bool}
end
theorem brunC (b:Bt) (ia:Option Addr) (ic:Nat) (inp:List Int) (fuel:Int) (hf:fuel≤9223372036854775807) (hil:inp.length≤1000000):FnC Tryz.prog 18 [.agg #[.slice b.ia b.ic.length b.ica,.int .i64 b.data,.slice b.ca b.code.length b.cca,.int .i64 b.mem],.slice ia inp.length ic,.int .i64 fuel] [] [rng b.ia (insC b.ic),rng ia (i64C inp)] (fun z=>resG (seqQ b.ic b.mem inp fuel) z) (fun z=>resH (seqQ b.ic b.mem inp fuel) z) (fun _=>True):=by
 have h1:=runC b.ia b.ica b.ic b.mem ia ic inp fuel hf hil;generalize seqQ b.ic b.mem inp fuel=r at *;unfold resG resH at *;refine fn_intro Tryz.func18 Tryz.ntmps18 rfl rfl rfl (fun w0=>?_);refine rrs ?_;intro b1 _;refine rr ?_;intro b2 _;refine rr ?_;refine cl (h1) ?_;intro z _;refine rrs ?_;exact en z trivial
theorem bpipC (b:Bt) (ia:Option Addr) (ic:Nat) (inp:List Int) (fuel:Int) (hf:fuel≤100000000) (hil:inp.length≤1000000):FnC Tryz.prog 22 [.agg #[.slice b.ia b.ic.length b.ica,.int .i64 b.data,.slice b.ca b.code.length b.cca,.int .i64 b.mem],.slice ia inp.length ic,.int .i64 fuel] [] [rng b.ca (insC b.code),rng ia (i64C inp)] (fun z=>resG (pipQ b.code b.mem inp fuel) z) (fun z=>resH (pipQ b.code b.mem inp fuel) z) (fun _=>True):=by
 have h1:=pipC b.ca b.cca b.code b.mem ia ic inp fuel hf hil;generalize pipQ b.code b.mem inp fuel=r at *;unfold resG resH at *;refine fn_intro Tryz.func22 Tryz.ntmps22 rfl rfl rfl (fun w0=>?_);refine rrs ?_;intro b1 _;refine rr ?_;intro b2 _;refine rr ?_;refine cl (h1) ?_;intro z _;refine rrs ?_;exact en z trivial
end
end Go.Proofs.YtkolmklfgbimoaaGreatDoor
namespace Go.Proofs.YtkolmklfgbimoaaGreatDoor
open Go
section
set_option maxRecDepth 512
def i32V (n:Int):List Value:=[.int .i32 n]
end
end Go.Proofs.YtkolmklfgbimoaaGreatDoor
namespace Go.Sx
open Go Chunk
section
set_option maxRecDepth 512
section
variable {P:Program} {n:Cx} {E:Env} {w0:World} {M:Nat→Prop} {H:List Chunk} {Q:Exit→Act→World→Prop} {S:World→Prop} {ls:List Nat} {fuel:Nat} {listed:Array Bool} {l:List Oper} {w:World} {Hk:List Chunk}
theorem xa_three {i j k:Nat} (hr:(Region.ready .any l.toArray listed == [i,j,k])=true) (h1:XP P l n Q S ls E i fuel listed w) (h2:XP P l n Q S ls E j fuel listed w) (h3:XP P l n Q S ls E k fuel listed w):XA P l n Q S ls E (fuel+1) listed w:=by
 refine ⟨fun q hcl a ha=>?_⟩;have hr':Region.ready .any l.toArray listed=[i,j,k]:=by simpa using hr
 refine ⟨fun h0=>(by rw [hr'] at h0;cases h0),fun k hk=>?_⟩;have hcs:=closed_set hcl hk;rw [hr'] at hk;simp only [List.mem_cons,List.not_mem_nil,or_false] at hk;rcases hk with rfl | rfl | rfl
 ·exact h1.run q hcs a ha
 ·exact h2.run q hcs a ha
 ·exact h3.run q hcs a ha
theorem wa_three {o:List Nat} {i j k:Nat} (ordi ordj ordk:List Nat) (hr:(Region.ready .any l.toArray listed == [i,j,k])=true) (h1:WS w0 M H Hk (XOP P l n Q S ls E ordi i fuel listed)) (h2:WS w0 M H Hk (XOP P l n Q S ls E ordj j fuel listed)) (h3:WS w0 M H Hk (XOP P l n Q S ls E ordk k fuel listed)) :
  WS w0 M H Hk (XO P l n Q S ls E o (fuel+1) listed):=fun w hw hs=>⟨xa_three hr (h1 w hw hs).run (h2 w hw hs).run (h3 w hw hs).run⟩
theorem w_cutJ {γ:Type} {x y:Code} (F:γ→Env) (Hv:γ→List Chunk) (rest:∀ g,Wd w0 M (Hv g) (XC P n Q (F g) y)) (h:∀ K:Act→World→Prop,(∀ g E',EnvSub E' (F g)→Wd w0 M (Hv g) (fun w=>∀ a,EnvOk a E' n→K a w))→Wd w0 M H (XC P n (Exit.then K Q) E x)):Wd w0 M H (XC P n (Exit.then (seqK P n.ro y Q) Q) E x):=
 fun w hw=>⟨fun q a ha=>(h (seqK P n.ro y Q) (fun g E' hs w hw a ha=>⟨⟨q.panic,q.out⟩,(rest g w hw).run ⟨q.panic,q.out⟩ a (ha.sub hs)⟩) w hw).run q a ha⟩
theorem w_joinJ {γ:Type} {F:γ→Env} {Hv:γ→List Chunk} {K:Act→World→Prop} {R:List Chunk} (hK:∀ g E',EnvSub E' (F g)→Wd w0 M (Hv g) (fun w=>∀ a,EnvOk a E' n→K a w)) (g:γ) (hp:Has H (Hv g) R) (hE:EnvSub E (F g)):Wd w0 M H (XQ n (Exit.then K Q) .normal E):=
 w_hasA hp (fun w hw=>⟨fun q a ha=>hK g E hE w hw a ha⟩)
end
end
end Go.Sx
namespace Go.Proofs.YtkolmklfgbimoaaGreatDoor
open Go Go.Sx Go.Sx.Chunk
section
section
variable {n:Cx} {E:Env} {w0:World} {M:Nat→Prop} {H:List Chunk} {Q:Exit→Act→World→Prop} {l:List Oper}
theorem th {Hk:List Chunk} {ls o:List Nat} {fuel i j k:Nat} {listed:Array Bool} {S:World→Prop} (ordi ordj ordk:List Nat) (h1:WS w0 M H Hk (XOP Tryz.prog l n Q S ls E ordi i fuel listed)) (h2:WS w0 M H Hk (XOP Tryz.prog l n Q S ls E ordj j fuel listed)) (h3:WS w0 M H Hk (XOP Tryz.prog l n Q S ls E ordk k fuel listed)) (hr:(Region.ready .any l.toArray listed == [i,j,k])=true:=by kernel_rfl) :
  WS w0 M H Hk (XO Tryz.prog l n Q S ls E o (fuel+1) listed):=wa_three ordi ordj ordk hr h1 h2 h3
end
end
end Go.Proofs.YtkolmklfgbimoaaGreatDoor

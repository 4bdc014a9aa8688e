/- Texts of the proof, in their order: Dm5, Dm2, Dm6, Dm3, Dm4, Dm7, Dm8. -/
import Derived.Test.YtkolmklfgbimoaaGreatDoorM9
import Derived.Test.YtkolmklfgbimoaaGreatDoorM7
set_option linter.unusedVariables false
set_option linter.unusedSimpArgs false
set_option maxHeartbeats 16000000
set_option maxRecDepth 100000
namespace Go.Proofs.YtkolmklfgbimoaaGreatDoor
open Go
theorem wr_mem' (n v:Int) (s:Co):(wrX n v s).mem=s.mem∧(wrX n v s).inp=s.inp∧(wrX n v s).out=s.out:=by
 unfold wrX;split <;> exact ⟨rfl,rfl,rfl⟩
theorem rg_wr {s:Co} {w n v:Int} (hw:0≤w) (hn:0≤n) (h:n=0∨n≠w):rgX (wrX w v s) n=rgX s n:=by
 unfold wrX rgX;split
 ·rfl
 ·dsimp only;rw [List.getD_eq_getElem?_getD,List.getD_eq_getElem?_getD,List.getElem?_set_ne (by omega)]
theorem wr_wr {s:Co} {w u a b:Int} (hw:0≤w) (hu:0≤u) (h:w=0∨w≠u):wrX w a (wrX u b s)=wrX u b (wrX w a s):=by
 unfold wrX;by_cases h0:w=0
 ·rw [if_pos h0,if_pos h0]
 ·by_cases h1:u=0
  ·rw [if_pos h1,if_pos h1]
  ·rw [if_neg h0,if_neg h1,if_neg h1,if_neg h0];dsimp only;rw [List.set_comm _ _ (by omega)]
theorem writes_eq {i:In} (hg:goodI i=true):writesF i=(fieldsF i).2:=by unfold writesF;rw [if_pos hg]
theorem reads_ne {i:In} (hg:goodI i=true) {w n:Int} (hr:readsB i w=false) (hn:n∈(fieldsF i).1):n=0∨n≠w:=by
 by_cases h:n=w
 ·subst h;unfold readsB at hr;rw [hg,List.contains_iff_mem.2 hn] at hr;left
  simpa using hr
 ·exact .inr h
theorem ex_wr {i:In} (hg:goodI i=true) {w v:Int} (hw:0≤w) (hr:readsB i w=false) (hne:w=0∨w≠writesF i) (lk:Int) (s:Co):exI lk i (wrX w v s)=((exI lk i s).1,wrX w v (exI lk i s).2):=by
 have hri:=rgI hg;have hop:=hri.op;have hmem:=wr_mem' w v s;have rg:∀ n,0≤n→n∈(fieldsF i).1→rgX (wrX w v s) n=rgX s n:=fun n hn hm=>rg_wr hw hn (reads_ne hg hr hm)
 rw [writes_eq hg] at hne;unfold exI;by_cases h12:i.op=12
 ·have hf:fieldsF i=([i.b],i.a):=by unfold fieldsF;rw [if_neg (by omega),if_pos (.inr h12)]
  rw [hf] at hne rg;rw [if_pos h12,if_pos h12,rg i.b hri.b.1 (by simp),hmem.1];cases ldP s.mem (w32 (rgX s i.b+i.imm)) with
  | none=>rfl
  | some u=>dsimp only;rw [wr_wr hw hri.a.1 hne]
 rw [if_neg h12,if_neg h12];by_cases h13:i.op=13
 ·have hf:fieldsF i=([i.a,i.b],0):=by unfold fieldsF;rw [if_neg (by omega),if_neg (by omega),if_neg (by omega),if_pos (.inl h13)]
  rw [hf] at hne rg;rw [if_pos h13,if_pos h13,rg i.b hri.b.1 (by simp),rg i.a hri.a.1 (by simp),hmem.1];split
  ·rfl
  ·simp only [Prod.mk.injEq,true_and];unfold wrX;split <;> rfl
 rw [if_neg h13,if_neg h13];by_cases h14:i.op=14
 ·have hf:fieldsF i=([i.a],0):=by unfold fieldsF;rw [if_neg (by omega),if_neg (by omega),if_neg (by omega),if_neg (by omega),if_pos (.inl h14)]
  rw [hf] at rg;rw [if_pos h14,if_pos h14,rg i.a hri.a.1 (by simp)]
 rw [if_neg h14,if_neg h14];by_cases h18:i.op=18
 ·have hf:fieldsF i=([],31):=by unfold fieldsF;rw [if_neg (by omega),if_neg (by omega),if_neg (by omega),if_neg (by omega),if_neg (by omega),if_pos h18]
  rw [hf] at hne;rw [if_pos h18,if_pos h18,wr_wr hw (by decide) hne]
 rw [if_neg h18,if_neg h18];by_cases h20:i.op=20
 ·have hf:fieldsF i=sysF i.imm:=by unfold fieldsF;rw [if_neg (by omega),if_neg (by omega),if_neg (by omega),if_neg (by omega),if_neg (by omega),if_neg (by omega),if_pos h20]
  rw [hf] at hne rg;rw [if_pos h20,if_pos h20];have hs:=hri.sys h20;have hcase:i.imm=0∨i.imm=1∨i.imm=2:=by omega
  unfold sysX;rcases hcase with h | h | h
  ·simp only [if_pos h]
  ·simp only [if_neg (show ¬ i.imm=0 by omega),if_pos h];rw [hmem.2.1];cases s.inp with
   | nil=>rfl
   | cons u r=>
    dsimp only;rw [h] at hne;have h4:w=0∨w≠4:=hne;rw [wr_wr hw (by decide) h4];simp only [Prod.mk.injEq,true_and]
    congr 1
    unfold wrX;split <;> rfl
  ·simp only [if_neg (show ¬ i.imm=0 by omega),if_neg (show ¬ i.imm=1 by omega),if_pos h];rw [hmem.2.2];rw [h] at rg;have h4:=rg 4 (by decide) (by simp [sysF]);rw [h4];split
   ·rfl
   ·simp only [Prod.mk.injEq,true_and];unfold wrX;split <;> rfl
 rw [if_neg h20,if_neg h20]
 have hrec:reckonQ i (rgX (wrX w v s) i.b) (rgX (wrX w v s) i.c)=reckonQ i (rgX s i.b) (rgX s i.c):=by
  by_cases h9:1≤i.op∧i.op≤9
  ·have hf:(fieldsF i).1=[i.b,i.c]:=by unfold fieldsF;rw [if_pos h9]
   rw [rg i.b hri.b.1 (by rw [hf];simp),rg i.c hri.c.1 (by rw [hf];simp)]
  ·by_cases h10:i.op=10
   ·have hf:(fieldsF i).1=[i.b]:=by unfold fieldsF;rw [if_neg (by omega),if_pos (.inl h10)]
    rw [rg i.b hri.b.1 (by rw [hf];simp)];unfold reckonQ reckQ;simp [h10]
   ·by_cases h11:i.op=11
    ·unfold reckonQ reckQ;simp [h11]
    ·rw [reck_none (by omega),reck_none (by omega)]
 rw [hrec];by_cases h11:1≤i.op∧i.op≤11
 ·have hf:(fieldsF i).2=i.a:=by
   unfold fieldsF;by_cases h9:i.op≤9
   ·rw [if_pos ⟨h11.1,h9⟩]
   ·rw [if_neg (by omega)];by_cases h10:i.op=10
    ·rw [if_pos (.inl h10)]
    ·rw [if_neg (by omega),if_pos (by omega)]
  rw [hf] at hne;split
  ·rw [wr_wr hw hri.a.1 hne]
  ·rfl
 ·rw [reck_none (by omega)];simp
theorem ex_pure {i:In} (hg:goodI i=true) (ha:actsF i=false) (hgo:goesF i=false) (lk:Int) (s:Co):exI lk i s=(0,wrX (writesF i) (reckonQ i (rgX s i.b) (rgX s i.c)).1 s):=by
 have hri:=rgI hg;have hop:=hri.op;unfold actsF at ha;rw [hg,Bool.and_true,decide_eq_false_iff_not] at ha;unfold goesF at hgo;rw [hg,Bool.and_true,decide_eq_false_iff_not] at hgo;unfold exI;rw [if_neg (by omega),if_neg (by omega),if_neg (by omega),if_neg (by omega),if_neg (by omega),writes_eq hg];by_cases h0:i.op=0
 ·rw [reck_none (by omega)]
  have hf:(fieldsF i).2=0:=by
   unfold fieldsF
   repeat rw [if_neg (by omega)]
  rw [hf];simp [wrX]
 ·have hf:(fieldsF i).2=i.a:=by
   unfold fieldsF;by_cases h9:i.op≤9
   ·rw [if_pos (by omega)]
   ·rw [if_neg (by omega)];by_cases h10:i.op=10
    ·rw [if_pos (.inl h10)]
    ·rw [if_neg (by omega),if_pos (by omega)]
  have hq:(reckonQ i (rgX s i.b) (rgX s i.c)).2=(0,true):=by
   unfold reckonQ;have hcase:i.op=1∨i.op=2∨i.op=3∨i.op=6∨i.op=7∨i.op=8∨i.op=9∨i.op=10∨i.op=11:=by omega
   rcases hcase with h | h | h | h | h | h | h | h | h <;> simp [reckQ,h]
  rw [hf];generalize reckonQ i (rgX s i.b) (rgX s i.c)=q at *;obtain ⟨q1,q2⟩:=q;dsimp only at hq;subst hq;simp
theorem ex_rg {i:In} (hg:goodI i=true) (lk:Int) (s:Co) {n:Int} (hn:0≤n) (h:n=0∨n≠writesF i):rgX (exI lk i s).2 n=rgX s n:=by
 have hri:=rgI hg;have hop:=hri.op;rw [writes_eq hg] at h;unfold exI;by_cases h12:i.op=12
 ·have hf:fieldsF i=([i.b],i.a):=by unfold fieldsF;rw [if_neg (by omega),if_pos (.inr h12)]
  rw [hf] at h;rw [if_pos h12];cases ldP s.mem (w32 (rgX s i.b+i.imm)) with
  | none=>rfl
  | some u=>exact rg_wr hri.a.1 hn h
 rw [if_neg h12];by_cases h13:i.op=13
 ·rw [if_pos h13];split <;> rfl
 rw [if_neg h13];by_cases h14:i.op=14
 ·rw [if_pos h14]
 rw [if_neg h14];by_cases h18:i.op=18
 ·have hf:fieldsF i=([],31):=by unfold fieldsF;rw [if_neg (by omega),if_neg (by omega),if_neg (by omega),if_neg (by omega),if_neg (by omega),if_pos h18]
  rw [hf] at h;rw [if_pos h18];exact rg_wr (by decide) hn h
 rw [if_neg h18];by_cases h20:i.op=20
 ·have hf:fieldsF i=sysF i.imm:=by unfold fieldsF;rw [if_neg (by omega),if_neg (by omega),if_neg (by omega),if_neg (by omega),if_neg (by omega),if_neg (by omega),if_pos h20]
  rw [hf] at h;rw [if_pos h20];unfold sysX;split
  ·rfl
  ·split
   ·rename_i h1;rw [h1] at h;split
    ·rfl
    ·exact rg_wr (s:={ s with inp:=_ }) (by decide) hn h
   ·split
    ·split <;> rfl
    ·rfl
 rw [if_neg h20];dsimp only;split
 ·rename_i hq;by_cases h11:1≤i.op∧i.op≤11
  ·have hf:(fieldsF i).2=i.a:=by
    unfold fieldsF;by_cases h9:i.op≤9
    ·rw [if_pos ⟨h11.1,h9⟩]
    ·rw [if_neg (by omega)];by_cases h10:i.op=10
     ·rw [if_pos (.inl h10)]
     ·rw [if_neg (by omega),if_pos (by omega)]
   rw [hf] at h;exact rg_wr hri.a.1 hn h
  ·rw [reck_none (by omega)] at hq;cases hq.2
 ·rfl
theorem ex_trap (lk:Int) (i:In) (s:Co) (h:(exI lk i s).1≠0):(exI lk i s).2=s:=by
 unfold exI at h ⊢;by_cases h12:i.op=12
 ·rw [if_pos h12] at h ⊢;cases hl:ldP s.mem (w32 (rgX s i.b+i.imm)) with
  | none=>rfl
  | some u=>rw [hl] at h;exact absurd rfl h
 rw [if_neg h12] at h ⊢;by_cases h13:i.op=13
 ·rw [if_pos h13] at h ⊢;split
  ·rfl
  ·rename_i hq;rw [if_neg hq] at h;exact absurd rfl h
 rw [if_neg h13] at h ⊢;by_cases h14:i.op=14
 ·rw [if_pos h14]
 rw [if_neg h14] at h ⊢;by_cases h18:i.op=18
 ·rw [if_pos h18] at h;exact absurd rfl h
 rw [if_neg h18] at h ⊢;by_cases h20:i.op=20
 ·rw [if_pos h20] at h ⊢;unfold sysX at h ⊢;split
  ·rfl
  ·rename_i h0;rw [if_neg h0] at h;split
   ·rename_i h1;rw [if_pos h1] at h;cases hi:s.inp with
    | nil=>rfl
    | cons u r=>rw [hi] at h;exact absurd rfl h
   ·rename_i h1;rw [if_neg h1] at h;split
    ·rename_i h2;rw [if_pos h2] at h;split
     ·rfl
     ·rename_i h3;rw [if_neg h3] at h;exact absurd rfl h
    ·rename_i h2;rfl
 rw [if_neg h20] at h ⊢;dsimp only at h ⊢;exact if_neg (fun hq=>h hq.1)
inductive Ro where
 | ok (s:Co)
 | stop (t:Int) (out:List Int)
def exR (i:In) (s:Co):Ro:=if (exI 0 i s).1=0 then .ok (exI 0 i s).2 else .stop (exI 0 i s).1 s.out
def Ro.bd (r:Ro) (f:Co→Ro):Ro:=match r with
 | .ok s=>f s
 | .stop t o=>.stop t o
def exL:List In→Co→Ro
 | [],s=>.ok s
 | i::l,s=>(exR i s).bd (exL l)
theorem Ro.bd_bd (r:Ro) (f g:Co→Ro):(r.bd f).bd g=r.bd fun s=>(f s).bd g:=by cases r <;> rfl
theorem exL_app:∀ (a b:List In) (s:Co),exL (a++b) s=(exL a s).bd (exL b)
 | [],b,s=>rfl
 | i::a,b,s=>by
  show (exR i s).bd (exL (a++b))=((exR i s).bd (exL a)).bd (exL b)
  rw [Ro.bd_bd]
  congr 1
  funext s
  exact exL_app a b s
def lineI (i:In):Prop:=goodI i=true∧goesF i=false
theorem far_0 {a b:In} (h:farF a b=0):readsB b (writesF a)=false∧(writesF a=0∨writesF a≠writesF b)∧readsB a (writesF b)=false∧¬ (actsF a=true∧actsF b=true):=by
 unfold farF at h;split at h
 ·cases h
 ·split at h
  ·cases h
  ·rename_i h2;simp only [Bool.or_eq_true,Bool.and_eq_true,decide_eq_true_eq,not_or,not_and,Bool.not_eq_true] at h2;obtain ⟨⟨⟨h3,h4⟩,h5⟩,h6⟩:=h2;refine ⟨h3,?_,h5,fun h=>by have:=h6 h.1;rw [h.2] at this;cases this⟩;by_cases h0:writesF a=0
   ·exact .inl h0
   ·exact .inr (h4 h0)
theorem pure_val {a b:In} (ha:goodI a=true) (hb:goodI b=true) (hr:readsB a (writesF b)=false) (lk:Int) (s:Co):(reckonQ a (rgX (exI lk b s).2 a.b) (rgX (exI lk b s).2 a.c)).1=(reckonQ a (rgX s a.b) (rgX s a.c)).1:=by
 have hra:=rgI ha;have hop:=hra.op;have rg:∀ n,0≤n→n∈(fieldsF a).1→rgX (exI lk b s).2 n=rgX s n:=fun n hn hm=>ex_rg hb lk s hn (reads_ne ha hr hm)
 by_cases h9:1≤a.op∧a.op≤9
 ·have hf:(fieldsF a).1=[a.b,a.c]:=by unfold fieldsF;rw [if_pos h9]
  rw [rg a.b hra.b.1 (by rw [hf];simp),rg a.c hra.c.1 (by rw [hf];simp)]
 ·by_cases h10:a.op=10
  ·have hf:(fieldsF a).1=[a.b]:=by unfold fieldsF;rw [if_neg (by omega),if_pos (.inl h10)]
   rw [rg a.b hra.b.1 (by rw [hf];simp)];unfold reckonQ reckQ;simp [h10]
  ·by_cases h11:a.op=11
   ·unfold reckonQ reckQ;simp [h11]
   ·rw [reck_none (by omega),reck_none (by omega)]
theorem swap_pure {a b:In} (ha:lineI a) (hb:lineI b) (h:farF a b=0) (hp:actsF a=false) (s:Co):(exR a s).bd (exR b)=(exR b s).bd (exR a):=by
 obtain ⟨h1,h2,h3,_⟩:=far_0 h
 have ea:∀ s,exR a s = .ok (wrX (writesF a) (reckonQ a (rgX s a.b) (rgX s a.c)).1 s):=fun s=>by
  unfold exR;rw [ex_pure ha.1 hp ha.2];rfl
 have hw:=(writes_in a).1;rw [ea];show exR b _=_
 unfold exR;rw [ex_wr hb.1 hw h1 h2];dsimp only;by_cases h0:(exI 0 b s).1=0
 ·rw [if_pos h0,if_pos h0];show _=exR a _
  rw [ea,pure_val ha.1 hb.1 h3]
 ·rw [if_neg h0,if_neg h0,(wr_mem' _ _ _).2.2];rfl
theorem far_0s {a b:In} (h:farF a b=0):farF b a=0:=by
 obtain ⟨h1,h2,h3,h4⟩:=far_0 h;unfold farF;rw [h3,h1];simp only [Bool.false_and,Bool.false_eq_true,if_false,Bool.false_or,Bool.or_false];rw [if_neg];simp only [Bool.or_eq_true,Bool.and_eq_true,decide_eq_true_eq,not_or,not_and];refine ⟨fun h5 h6=>?_,fun h5 h6=>h4 ⟨h6,h5⟩⟩;rcases h2 with h2 | h2
 ·rw [h2] at h6;exact h5 h6
 ·exact h2 h6.symm
theorem swap_ex {a b:In} (ha:lineI a) (hb:lineI b) (h:farF a b=0) (s:Co):(exR a s).bd (exR b)=(exR b s).bd (exR a):=by
 cases hp:actsF a with
 | false=>exact swap_pure ha hb h hp s
 | true=>
  have hq:actsF b=false:=by
   cases hq:actsF b with
   | false=>rfl
   | true=>exact absurd ⟨hp,hq⟩ (far_0 h).2.2.2
  exact (swap_pure hb ha (far_0s h) hq s).symm
theorem swap_exL {a b:In} (ha:lineI a) (hb:lineI b) (h:farF a b=0) (l:List In) (s:Co):exL (a::b::l) s=exL (b::a::l) s:=by
 show (exR a s).bd (fun s=>(exR b s).bd (exL l))=(exR b s).bd (fun s=>(exR a s).bd (exL l))
 rw [← Ro.bd_bd,← Ro.bd_bd,swap_ex ha hb h]
theorem line_nop:lineI nopI:=⟨by decide +kernel,by decide +kernel⟩
theorem exL_nop (l:List In) (s:Co):exL (nopI::l) s=exL l s:=by
 have:exR nopI s = .ok s:=by
  unfold exR;rw [ex_pure line_nop.1 (by decide +kernel) line_nop.2];have:writesF nopI=0:=by decide +kernel
  rw [this];simp [wrX]
 show (exR nopI s).bd (exL l)=_
 rw [this];rfl
def insN (x:Nat):List Nat→List Nat
 | []=>[x]
 | y::r=>if x≤y then x::y::r else y::insN x r
def sortN:List Nat→List Nat
 | []=>[]
 | x::r=>insN x (sortN r)
theorem insN_perm (x:Nat):∀ r,(insN x r).Perm (x::r)
 | []=>List.Perm.refl _
 | y::r=>by
  unfold insN;split
  ·exact List.Perm.refl _
  ·exact ((insN_perm x r).cons y).trans (List.Perm.swap x y r)
theorem sortN_perm:∀ r,(sortN r).Perm r
 | []=>List.Perm.refl _
 | x::r=>(insN_perm x _).trans ((sortN_perm r).cons x)
theorem insN_sorted (x:Nat):∀ r,r.Pairwise (· ≤ ·)→(insN x r).Pairwise (· ≤ ·)
 | [],_=>List.pairwise_singleton _ _
 | y::r,h=>by
  have h2:=List.pairwise_cons.1 h;unfold insN;split
  ·rename_i hxy;refine List.pairwise_cons.2 ⟨fun z hz=>?_,h⟩;rcases List.mem_cons.1 hz with rfl | hz
   ·exact hxy
   ·exact Nat.le_trans hxy (h2.1 z hz)
  ·rename_i hxy;refine List.pairwise_cons.2 ⟨fun z hz=>?_,insN_sorted x r h2.2⟩;rcases List.mem_cons.1 ((insN_perm x r).mem_iff.1 hz) with rfl | hz
   ·omega
   ·exact h2.1 z hz
theorem sortN_sorted:∀ r,(sortN r).Pairwise (· ≤ ·)
 | []=>List.Pairwise.nil
 | x::r=>insN_sorted x _ (sortN_sorted r)
theorem exL_ins (g:Nat→In) (hg:∀ n,lineI (g n)) (x:Nat):∀ (r:List Nat) (s:Co),(∀ y∈r,y<x→farF (g y) (g x)=0)→exL ((x::r).map g) s=exL ((insN x r).map g) s
 | [],s,_=>rfl
 | y::r,s,h=>by
  unfold insN;split
  ·rfl
  ·rename_i hxy;have h1:=h y List.mem_cons_self (by omega);rw [List.map_cons,List.map_cons,swap_exL (hg x) (hg y) (far_0s h1),List.map_cons];show (exR (g y) s).bd (exL ((x::r).map g))=(exR (g y) s).bd (exL ((insN x r).map g))
   congr 1
   funext s
   exact exL_ins g hg x r s (fun z hz=>h z (List.mem_cons_of_mem _ hz))
theorem exL_sort (g:Nat→In) (hg:∀ n,lineI (g n)):∀ (r:List Nat) (s:Co),r.Pairwise (fun p q=>q<p→farF (g q) (g p)=0)→exL (r.map g) s=exL ((sortN r).map g) s
 | [],s,_=>rfl
 | x::r,s,h=>by
  have h1:=List.pairwise_cons.1 h;unfold sortN;rw [← exL_ins g hg x _ s (fun y hy hlt=>h1.1 y ((sortN_perm r).mem_iff.1 hy) hlt),List.map_cons,List.map_cons];show (exR (g x) s).bd (exL (r.map g))=(exR (g x) s).bd (exL ((sortN r).map g))
  congr 1
  funext s
  exact exL_sort g hg r s h1.2
structure DS where
 mk ::
 (c:Co) (pc nx:Int)
def insD (code:List In) (pc:Int):In:=code.getD pc.toNat nopI
def offD (code:List In) (pc:Int):Prop:=pc<0∨(code.length:Int)≤pc
instance (code:List In) (pc:Int):Decidable (offD code pc):=inferInstanceAs (Decidable (_∨_))
theorem fetL_eq (code:List In) (pc:Int):fetL code pc=if offD code pc then { lt0 with full:=true,pl:=pc,trap:=2 } else if goodI (insD code pc)=false then { lt0 with full:=true,pl:=pc,trap:=8 } else { lt0 with full:=true,pl:=pc,i:=insD code pc }:=rfl
def stepD (code:List In) (s:DS):Int×DS:=
 if offD code s.pc then (2,s)
 else if goodI (insD code s.pc)=false then (8,s)
 else ((exI (s.pc+2) (insD code s.pc) s.c).1,⟨(exI (s.pc+2) (insD code s.pc) s.c).2,s.nx,(jmpI (insD code s.pc) s.pc s.c).getD (s.nx+1)⟩)
def hzF (i j:In):Bool:=lateF i && readsB j (writesF i)
def Hz (code:List In) (s:DS):Prop:=hzF (insD code s.pc) (insD code s.nx)=false
def kGood (i:In) (pc:Int) (s:Co) (k:Lt):Prop:=
 k.i=i∧k.reg=writesF i ∧
 (if i.op=14 then k.trap=(if rgX s i.a<0∨i.imm≤rgX s i.a then (if i.b=0 then 5 else i.b) else 0)
  else if i.op=18 then k.trap=0∧k.val=pc+2
  else if i.op=20 then k.trap=0∧(i.imm=2→k.sto=rgX s 4)
  else k.val=(reckonQ i (rgX s i.b) (rgX s i.c)).1∧k.trap=(reckonQ i (rgX s i.b) (rgX s i.c)).2.1∧(i.op=12∨i.op=13→k.whr=w32 (rgX s i.b+i.imm))∧(i.op=13→k.sto=rgX s i.a))
def kIs (code:List In) (s:DS) (k:Lt):Prop:=k.full=true ∧
 if offD code s.pc then k.trap=2 else if goodI (insD code s.pc)=false then k.trap=8 else kGood (insD code s.pc) s.pc s.c k
structure Acted (i:In) (s s':Co) (m:PS) (k A:Lt):Prop where
 full:A.full=true
 reg:A.reg=writesF i
 regs:s'.regs=if A.reg≠0 then s.regs.set A.reg.toNat A.val else s.regs
 val:lateF i=false→A.val=k.val
theorem wr_regs (n v:Int) (s:Co):(wrX n v s).regs=if n≠0 then s.regs.set n.toNat v else s.regs:=by
 unfold wrX;by_cases h:n=0
 ·rw [if_pos h,if_neg (by simpa using h)]
 ·rw [if_neg h,if_pos h]
theorem wr_mem (n v:Int) (s:Co):(wrX n v s).mem=s.mem∧(wrX n v s).inp=s.inp∧(wrX n v s).out=s.out:=by
 unfold wrX;split <;> exact ⟨rfl,rfl,rfl⟩
theorem kGood.act {i:In} {pc:Int} {s:Co} {k:Lt} (h:kGood i pc s k) (hf:k.full=true) (hg:goodI i=true) (hc:CoOk s) (m:PS) (e1:m.mem=s.mem) (e2:m.inp=s.inp) (e3:m.out=s.out) :
  (actL k m).1=(exI (pc+2) i s).1∧(actL k m).2.out=(exI (pc+2) i s).2.out ∧
  ((exI (pc+2) i s).1=0→∃ A,(actL k m).2={ m with mem:=(exI (pc+2) i s).2.mem,inp:=(exI (pc+2) i s).2.inp,out:=(exI (pc+2) i s).2.out,a:=A }∧Acted i s (exI (pc+2) i s).2 m k A):=by
 obtain ⟨h1,h2,h3⟩:=h;have hm:m={ m with mem:=s.mem,inp:=s.inp,out:=s.out }:=by rw [← e1,← e2,← e3]
 have hw:writesF i=(fieldsF i).2:=by unfold writesF;rw [if_pos hg]
 have hop:=(rgI hg).op;unfold actL;rw [hf,h1];by_cases h12:i.op=12
 ·rw [if_neg (by omega),if_neg (by omega),if_neg (by omega),reck_none (by omega)] at h3;obtain ⟨_,h5,h6,_⟩:=h3;have h5:k.trap=0:=h5;have h6:=h6 (.inl h12)
  have e4:exI (pc+2) i s=(match ldP s.mem (w32 (rgX s i.b+i.imm)) with
   | none=>(3,s)
   | some v=>(0,wrX i.a v s)):=by unfold exI;rw [if_pos h12];try rfl
  rw [e4,if_neg (by rw [h5];simp),if_pos h12,h6,e1];cases hl:ldP s.mem (w32 (rgX s i.b+i.imm)) with
  | none=>exact ⟨rfl,e3,fun h=>by cases h⟩
  | some v=>
   refine ⟨h5,?_,fun _=>⟨{ k with val:=v },?_,hf,h2,?_,fun hl=>?_⟩⟩
   ·show m.out=_;rw [(wr_mem _ _ _).2.2,e3]
   ·simp [hf,h1,h6,e1,e2,e3,(wr_mem i.a v s).1,(wr_mem i.a v s).2.1,(wr_mem i.a v s).2.2]
   ·show (wrX i.a v s).regs=_
    rw [wr_regs];show _=if k.reg≠0 then s.regs.set k.reg.toNat v else s.regs
    have:k.reg=i.a:=by rw [h2,hw];unfold fieldsF;rw [if_neg (by omega),if_pos (.inr h12)]
    rw [this]
   ·unfold lateF at hl;rw [hg,h12] at hl;simp at hl
 by_cases h13:i.op=13
 ·rw [if_neg (by omega),if_neg (by omega),if_neg (by omega),reck_none (by omega)] at h3;obtain ⟨_,h5,h6,h7⟩:=h3;have h5:k.trap=0:=h5;have h6:=h6 (.inr h13);have h7:=h7 h13;have hr:k.reg=0:=by rw [h2,hw];unfold fieldsF;rw [if_neg (by omega),if_neg (by omega),if_neg (by omega),if_pos (.inl h13)]
  have e4:exI (pc+2) i s=(if w32 (rgX s i.b+i.imm)<0∨(s.mem.length:Int)≤w32 (rgX s i.b+i.imm) then (3,s) else (0,{ s with mem:=s.mem.set (w32 (rgX s i.b+i.imm)).toNat (rgX s i.a) })):=by unfold exI;rw [if_neg h12,if_pos h13]
  rw [e4,if_neg (by rw [h5];simp),if_neg h12,if_pos h13,h6,h7,e1,w32_id (hc.rg i.a)];split
  ·exact ⟨rfl,e3,fun h=>by cases h⟩
  ·refine ⟨h5,e3,fun _=>⟨k,?_,hf,h2,?_,fun _=>rfl⟩⟩
   ·show ({ m with mem:=_,a:=k }:PS)=_
    rw [← e2,← e3]
   ·rw [hr];rfl
 by_cases h20:i.op=20
 ·rw [if_neg (by omega),if_neg (by omega),if_pos h20] at h3;obtain ⟨h5,h7⟩:=h3;have e4:exI (pc+2) i s=sysX i.imm s:=by unfold exI;rw [if_neg h12,if_neg h13,if_neg (by omega),if_neg (by omega),if_pos h20]
  rw [e4,if_neg (by rw [h5];simp),if_neg h12,if_neg h13,if_pos h20];have hs:=(rgI hg).sys h20;have hcase:i.imm=0∨i.imm=1∨i.imm=2:=by omega
  have hr:k.reg=(sysF i.imm).2:=by rw [h2,hw];unfold fieldsF;rw [if_neg (by omega),if_neg (by omega),if_neg (by omega),if_neg (by omega),if_neg (by omega),if_neg (by omega),if_pos h20]
  rcases hcase with h0 | h0 | h0
  ·have e5:sysX i.imm s=(1,s):=by unfold sysX;rw [if_pos h0]
   have e6:sysP k m=({ k with trap:=1 },m):=by unfold sysP;rw [h1,if_pos h0]
   rw [e5,e6];exact ⟨rfl,e3,fun h=>by cases h⟩
  ·have e5:sysX i.imm s=(match s.inp with
    | []=>(6,s)
    | v::r=>(0,wrX 4 (w32 v) { s with inp:=r })):=by unfold sysX;rw [if_neg (by omega),if_pos h0];try rfl
   have e6:sysP k m=(match m.inp with
    | []=>({ k with trap:=6 },m)
    | v::r=>({ k with val:=w32 v },{ m with inp:=r })):=by unfold sysP;rw [h1,if_neg (by omega),if_pos h0];rw [← h1];try rfl
   rw [e5,e6,e2];have hr4:k.reg=4:=by rw [hr,h0];rfl
   cases hin:s.inp with
   | nil=>exact ⟨rfl,e3,fun h=>by cases h⟩
   | cons v r=>
    refine ⟨h5,?_,fun _=>⟨{ k with val:=w32 v },?_,hf,h2,?_,fun hl=>?_⟩⟩
    ·show m.out=_;rw [(wr_mem _ _ _).2.2];exact e3
    ·rw [(wr_mem _ _ _).1,(wr_mem _ _ _).2.1,(wr_mem _ _ _).2.2,← e1,← e3]
    ·show (wrX 4 (w32 v) _).regs=if k.reg≠0 then s.regs.set k.reg.toNat (w32 v) else s.regs
     rw [wr_regs,hr4]
    ·unfold lateF at hl;rw [hg,h20,h0] at hl;simp at hl
  ·have e5:sysX i.imm s=(if 10000≤s.out.length then (9,s) else (0,{ s with out:=s.out++[rgX s 4] })):=by unfold sysX;rw [if_neg (by omega),if_neg (by omega),if_pos h0]
   have e6:sysP k m=(if 10000≤m.out.length then ({ k with trap:=9 },m) else (k,{ m with out:=m.out++[k.sto] })):=by unfold sysP;rw [h1,if_neg (by omega),if_neg (by omega),if_pos h0]
   rw [e5,e6,e3,h7 h0];have hr0:k.reg=0:=by rw [hr,h0];rfl
   split
   ·exact ⟨rfl,e3,fun h=>by cases h⟩
   ·refine ⟨h5,rfl,fun _=>⟨k,?_,hf,h2,?_,fun _=>rfl⟩⟩
    ·show ({ m with out:=_,a:=k }:PS)=_
     rw [← e1,← e2]
    ·rw [hr0];rfl
 by_cases h14:i.op=14
 ·rw [if_pos h14] at h3;have e4:exI (pc+2) i s=(if rgX s i.a<0∨i.imm≤rgX s i.a then (if i.b=0 then 5 else i.b) else 0,s):=by unfold exI;rw [if_neg h12,if_neg h13,if_pos h14]
  have hr0:k.reg=0:=by rw [h2,hw];unfold fieldsF;rw [if_neg (by omega),if_neg (by omega),if_neg (by omega),if_neg (by omega),if_pos (.inl h14)]
  rw [e4];rw [← h3];by_cases ht:k.trap=0
  ·rw [if_neg (by rw [ht];simp),if_neg h12,if_neg h13,if_neg h20];refine ⟨rfl,e3,fun _=>⟨k,?_,hf,h2,?_,fun _=>rfl⟩⟩
   ·show ({ m with a:=k }:PS)=_
    rw [← e1,← e2,← e3]
   ·rw [hr0];rfl
  ·rw [if_pos (.inr ht)];exact ⟨rfl,e3,fun h=>absurd h ht⟩
 by_cases h18:i.op=18
 ·rw [if_neg h14,if_pos h18] at h3;obtain ⟨h5,h6⟩:=h3;have e4:exI (pc+2) i s=(0,wrX 31 (pc+2) s):=by unfold exI;rw [if_neg h12,if_neg h13,if_neg h14,if_pos h18]
  have hr:k.reg=31:=by rw [h2,hw];unfold fieldsF;rw [if_neg (by omega),if_neg (by omega),if_neg (by omega),if_neg (by omega),if_neg (by omega),if_pos h18]
  rw [e4,if_neg (by rw [h5];simp),if_neg h12,if_neg h13,if_neg h20];refine ⟨h5,?_,fun _=>⟨k,?_,hf,h2,?_,fun _=>rfl⟩⟩
  ·show m.out=_;rw [(wr_mem _ _ _).2.2];exact e3
  ·show ({ m with a:=k }:PS)=_
   rw [(wr_mem _ _ _).1,(wr_mem _ _ _).2.1,(wr_mem _ _ _).2.2,← e1,← e2,← e3]
  ·rw [wr_regs,hr,h6]
 rw [if_neg h14,if_neg h18,if_neg h20] at h3;obtain ⟨h4,h5,_,_⟩:=h3;have e4:exI (pc+2) i s=((reckonQ i (rgX s i.b) (rgX s i.c)).2.1,if (reckonQ i (rgX s i.b) (rgX s i.c)).2.1=0∧(reckonQ i (rgX s i.b) (rgX s i.c)).2.2=true then wrX i.a (reckonQ i (rgX s i.b) (rgX s i.c)).1 s else s):=by unfold exI;rw [if_neg h12,if_neg h13,if_neg h14,if_neg h18,if_neg h20]
 rw [e4]
 have hw2:(reckonQ i (rgX s i.b) (rgX s i.c)).2.1=0→((reckonQ i (rgX s i.b) (rgX s i.c)).2.2=true∧k.reg=i.a)∨((reckonQ i (rgX s i.b) (rgX s i.c)).2.2=false∧k.reg=0):=by
  intro h0;by_cases h11:1≤i.op∧i.op≤11
  ·left;refine ⟨?_,?_⟩
   ·unfold reckonQ;have hcase:i.op=1∨i.op=2∨i.op=3∨i.op=4∨i.op=5∨i.op=6∨i.op=7∨i.op=8∨i.op=9∨i.op=10∨i.op=11:=by omega
    rcases hcase with h | h | h | h | h | h | h | h | h | h | h <;> simp [reckQ,h] <;> split <;> rfl
   ·rw [h2,hw];unfold fieldsF;by_cases h9:i.op≤9
    ·rw [if_pos ⟨h11.1,h9⟩]
    ·rw [if_neg (by omega)];by_cases h10:i.op=10
     ·rw [if_pos (.inl h10)]
     ·rw [if_neg (by omega),if_pos (by omega)]
  ·right;refine ⟨by rw [reck_none (by omega)],?_⟩;rw [h2,hw];unfold fieldsF;rw [if_neg (by omega),if_neg (by omega),if_neg (by omega)];split
   ·rfl
   ·split
    ·rfl
    ·first | rfl | (rw [if_neg h18,if_neg h20];done) | (rw [if_neg h18,if_neg h20];rfl)
 generalize reckonQ i (rgX s i.b) (rgX s i.c)=v at *;obtain ⟨v1,v2,v3⟩:=v;dsimp only at *;by_cases hv:v2=0
 ·subst hv;rw [if_neg (by rw [h5];simp),if_neg h12,if_neg h13,if_neg h20];rcases hw2 rfl with ⟨rfl,hr⟩ | ⟨rfl,hr⟩
  ·rw [if_pos ⟨rfl,rfl⟩];refine ⟨h5,?_,fun _=>⟨k,?_,hf,h2,?_,fun _=>rfl⟩⟩
   ·show m.out=_;rw [(wr_mem _ _ _).2.2];exact e3
   ·show ({ m with a:=k }:PS)=_
    rw [(wr_mem _ _ _).1,(wr_mem _ _ _).2.1,(wr_mem _ _ _).2.2,← e1,← e2,← e3]
   ·rw [wr_regs,hr,h4]
  ·rw [if_neg (by simp)];refine ⟨h5,e3,fun _=>⟨k,?_,hf,h2,?_,fun _=>rfl⟩⟩
   ·show ({ m with a:=k }:PS)=_
    rw [← e1,← e2,← e3]
   ·rw [hr];rfl
 ·rw [if_pos (.inr (by rw [h5];exact hv))];refine ⟨h5,?_,fun h=>absurd h hv⟩;rw [if_neg (by simp [hv])];exact e3
def gI (l:List In) (n:Nat):In:=l.getD n nopI
structure OrdI (l:List In) (ats out:List Int) (left:Nat):Prop where
 ok:OrdOk l ats out left
 pos:∀ j,j<l.length→0≤ats.getD j 0→out[(ats.getD j 0).toNat]? = some (j:Int)
 inv:∀ (p:Nat) (v:Int),out[p]? = some v→v = -1∨∃ j:Nat,v=j∧j<l.length∧ats.getD j 0=(p:Int)
 dep:∀ i j,i<j→j<l.length→0≤ats.getD j 0→0<farF (gI l i) (gI l j)→0≤ats.getD i 0∧ats.getD i 0+farF (gI l i) (gI l j)≤ats.getD j 0
theorem getD_set_ne {l:List Int} {b j:Nat} {v:Int} (h:b≠j):(l.set b v).getD j 0=l.getD j 0:=by
 rw [List.getD_eq_getElem?_getD,List.getD_eq_getElem?_getD,List.getElem?_set_ne h]
theorem getD_set_eq {l:List Int} {b:Nat} {v:Int} (h:b<l.length):(l.set b v).getD b 0=v:=by
 rw [List.getD_eq_getElem?_getD,List.getElem?_set_self h];rfl
theorem ordi_start (l:List In):OrdI l (List.replicate l.length (-1)) [] l.length:=by
 have hn:∀ j,j<l.length→(List.replicate l.length (-1:Int)).getD j 0 = -1:=fun j hj=>by
  rw [List.getD_eq_getElem?_getD,List.getElem?_replicate,if_pos hj];rfl
 refine ⟨ord_start l,fun j hj h=>?_,fun p v h=>?_,fun i j hij hj h=>?_⟩
 ·rw [hn j hj] at h;omega
 ·simp at h
 ·rw [hn j hj] at h;omega
theorem OrdI.stall {l:List In} {ats out:List Int} {left:Nat} (h:OrdI l ats out left) (hl:0<left):OrdI l ats (out++[-1]) left:=by
 refine ⟨(ord_stall h.ok hl).1,fun j hj h0=>?_,fun p v hv=>?_,h.dep⟩
 ·have:=h.pos j hj h0;rw [List.getElem?_append_left (List.getElem?_eq_some_iff.1 this).1,this]
 ·by_cases hp:p<out.length
  ·rw [List.getElem?_append_left hp] at hv;exact h.inv p v hv
  ·rw [List.getElem?_append_right (by omega)] at hv;left;have:=List.mem_of_getElem? hv
   simpa using this
theorem OrdI.put {l:List In} {ats out:List Int} {left b:Nat} (h:OrdI l ats out left) (hb:b∈candsF l ats (out.length:Int)):OrdI l (ats.set b (out.length:Int)) (out++[(b:Int)]) (left-1):=by
 obtain ⟨h1,h2,h3⟩:=ord_put h.ok hb;obtain ⟨_,hr⟩:=mem_cands.1 hb;unfold readyF at hr;rw [Bool.and_eq_true,List.all_eq_true,decide_eq_true_eq] at hr;obtain ⟨hr1,hr2⟩:=hr;have hlen:=h.ok.len;refine ⟨h1,fun j hj h0=>?_,fun p v hv=>?_,fun i j hij hj h0 hf=>?_⟩
 ·by_cases hjb:b=j
  ·subst hjb;rw [getD_set_eq (by omega),Int.toNat_natCast,List.getElem?_append_right (Nat.le_refl _),Nat.sub_self];rfl
  ·rw [getD_set_ne hjb] at h0 ⊢;have:=h.pos j hj h0;rw [List.getElem?_append_left (List.getElem?_eq_some_iff.1 this).1,this]
 ·by_cases hp:p<out.length
  ·rw [List.getElem?_append_left hp] at hv;rcases h.inv p v hv with rfl | ⟨j,rfl,hj,ha⟩
   ·exact .inl rfl
   ·refine .inr ⟨j,rfl,hj,?_⟩;rw [getD_set_ne (by rintro rfl;omega)];exact ha
  ·rw [List.getElem?_append_right (by omega)] at hv;have hp2:=(List.getElem?_eq_some_iff.1 hv).1;simp only [List.length_singleton] at hp2;obtain rfl:p=out.length:=by omega
   rw [Nat.sub_self] at hv;have:v=(b:Int):=by simpa using hv.symm
   exact .inr ⟨b,this,h3,getD_set_eq (by omega)⟩
 ·by_cases hjb:b=j
  ·subst hjb;rw [getD_set_eq (by omega),getD_set_ne (by omega)];have:=hr2 i (List.mem_range.2 hij);unfold blocksF at this;rw [decide_eq_true (show 0<farF (l.getD i nopI) (l.getD b nopI) from hf)] at this;simp only [Bool.true_and,Bool.not_or,Bool.and_eq_true,Bool.not_eq_true',decide_eq_false_iff_not] at this;unfold gI at hf ⊢;omega
  ·rw [getD_set_ne hjb] at h0 ⊢;have:=h.dep i j hij hj h0 hf;by_cases hib:b=i
   ·subst hib;omega
   ·rw [getD_set_ne hib];exact this
theorem orderG_inv (l:List In) (hs:List Int):∀ (f:Nat) (ats out:List Int) (left:Nat),OrdI l ats out left→muO l ats out left≤f→∃ a2,OrdI l a2 (orderG l hs f ats out left) 0
 | 0,ats,out,left,h,hm=>by
  unfold muO at hm;obtain rfl:left=0:=by omega
  exact ⟨ats,h⟩
 | f+1,ats,out,left,h,hm=>by
  rw [orderG];by_cases hl:left=0
  ·subst hl;rw [if_pos rfl];exact ⟨ats,h⟩
  rw [if_neg hl];unfold muO at hm;cases hb:bestF hs (candsF l ats (out.length:Int)) with
  | none=>
   dsimp only;rw [if_pos (bestF_none.1 hb)] at hm;obtain ⟨h1,h2⟩:=ord_stall h.ok (by omega);exact orderG_inv l hs f _ _ _ (h.stall (by omega)) (by unfold muO;rw [if_neg h2];omega)
  | some b=>
   dsimp only
   have hbm:b∈candsF l ats (out.length:Int):=by
    rcases bestG_mem hs _ _ _ hb with h1 | h1
    ·exact h1
    ·cases h1
   have h4:=(ord_put h.ok hbm).2.1;exact orderG_inv l hs f _ _ _ (h.put hbm) (by unfold muO;split <;> omega)
theorem orderF_inv (l:List In):∃ ats,OrdI l ats (orderF l) 0:=orderG_inv l _ _ _ _ _ (ordi_start l) (by unfold muO;split <;> omega)
theorem leftN_all {ats:List Int} (h:leftN ats=0):∀ j,j<ats.length→0≤ats.getD j 0:=fun j hj=>by
 unfold leftN at h;have h2:=List.length_eq_zero_iff.1 h;rw [List.filter_eq_nil_iff] at h2;have:=h2 _ (getD_mem (d:=0) hj)
 simpa using this
def natsO (o:List Int):List Nat:=o.filterMap fun v=>if 0≤v then some v.toNat else none
theorem mem_nats {o:List Int} {n:Nat}:n∈natsO o↔(n:Int)∈o:=by
 unfold natsO;rw [List.mem_filterMap];constructor
 ·rintro ⟨v,hv,h⟩;split at h
  ·rename_i h0;have:v=(n:Int):=by have:=Option.some.inj h;omega
   rw [← this];exact hv
  ·cases h
 ·intro h;exact ⟨(n:Int),h,by rw [if_pos (by omega),Int.toNat_natCast]⟩
structure OrdG (l:List In) (o:List Int):Prop where
 low:∀ v∈o,v = -1∨∃ j:Nat,v=j∧j<l.length
 all:∀ j:Nat,j<l.length→(j:Int)∈o
 pw:o.Pairwise fun (u v:Int)=>∀ a b:Nat,u=(a:Int)→v=(b:Int)→a≠b∧(b<a→farF (gI l b) (gI l a)=0)
 hz:∀ (p:Nat) (u v:Nat),o[p]? = some (u:Int)→o[p+1]? = some (v:Int)→hzF (gI l u) (gI l v)=false
 len:o.length≤2*l.length
theorem orderF_all (l:List In):OrdG l (orderF l):=by
 obtain ⟨ats,h⟩:=orderF_inv l;have hall:=leftN_all h.ok.left;have hlen:=h.ok.len;rw [hlen] at hall
 have key:∀ (p q a b:Nat),p≠q→(orderF l)[p]? = some (a:Int)→(orderF l)[q]? = some (b:Int)→a<l.length∧b<l.length∧ats.getD a 0=(p:Int)∧ats.getD b 0=(q:Int)∧a≠b:=by
  intro p q a b hpq ha hb;rcases h.inv p a ha with h1 | ⟨j,h1,hj,h2⟩
  ·omega
  rcases h.inv q b hb with h3 | ⟨k,h3,hk,h4⟩
  ·omega
  obtain rfl:a=j:=by omega
  obtain rfl:b=k:=by omega
  exact ⟨hj,hk,h2,h4,fun hab=>by subst hab;omega⟩
 refine ⟨fun v hv=>?_,fun j hj=>?_,?_,fun p u v hu hv=>?_,?_⟩
 ·obtain ⟨p,hp,rfl⟩:=List.mem_iff_getElem.1 hv;rcases h.inv p _ (List.getElem?_eq_getElem hp) with h1 | ⟨j,h1,hj,_⟩
  ·exact .inl h1
  ·exact .inr ⟨j,h1,hj⟩
 ·exact List.mem_of_getElem? (h.pos j hj (hall j hj))
 ·rw [List.pairwise_iff_getElem];intro p q hp hq hpq a b ha hb;obtain ⟨h1,h2,h3,h4,h5⟩:=key p q a b (by omega) (by rw [List.getElem?_eq_getElem hp,ha]) (by rw [List.getElem?_eq_getElem hq,hb]);refine ⟨h5,fun hlt=>?_⟩;have hf:=(farF_le (gI l b) (gI l a)).1;by_cases h0:farF (gI l b) (gI l a)=0
  ·exact h0
  ·have:=h.dep b a hlt h1 (hall a h1) (by omega);omega
 ·obtain ⟨h1,h2,h3,h4,h5⟩:=key p (p+1) u v (by omega) hu hv;cases hz:hzF (gI l u) (gI l v) with
  | false=>rfl
  | true=>
   exfalso;unfold hzF at hz;rw [Bool.and_eq_true] at hz;by_cases hlt:u<v
   ·have hf:farF (gI l u) (gI l v)=2:=by unfold farF;rw [hz.1,hz.2];rfl
    have:=h.dep u v hlt h2 (hall v h2) (by omega);omega
   ·have hf:0<farF (gI l v) (gI l u):=by
     unfold farF;rw [hz.2];split
     ·omega
     ·rw [Bool.or_true];simp
    have:=h.dep v u (by omega) h1 (hall u h1) hf;omega
 ·have h1:=orderG_len l (htsF l) (2*l.length+1) _ _ _ (ord_start l);unfold orderF;unfold muO at h1;by_cases hl:l=[]
  ·subst hl;simp [orderG]
  ·rw [if_neg (by simpa using cands_start l hl)] at h1
   simpa using h1
theorem strict_eq:∀ {a b:List Nat},a.Pairwise (· < ·)→b.Pairwise (· < ·)→(∀ x,x∈a↔x∈b)→a=b
 | [],[],_,_,_=>rfl
 | [],y::b,_,_,h=>by have:=(h y).2 List.mem_cons_self;cases this
 | x::a,[],_,_,h=>by have:=(h x).1 List.mem_cons_self;cases this
 | x::a,y::b,ha,hb,h=>by
  have h1:=List.pairwise_cons.1 ha;have h2:=List.pairwise_cons.1 hb
  have hxy:x=y:=by
   rcases List.mem_cons.1 ((h x).1 List.mem_cons_self) with h3 | h3
   ·exact h3
   ·rcases List.mem_cons.1 ((h y).2 List.mem_cons_self) with h4 | h4
    ·exact h4.symm
    ·have:=h1.1 y h4;have:=h2.1 x h3;omega
  subst hxy
  rw [strict_eq h1.2 h2.2 (fun z=>by
   constructor
   ·intro hz;rcases List.mem_cons.1 ((h z).1 (List.mem_cons_of_mem _ hz)) with rfl | h5
    ·have:=h1.1 z hz;omega
    ·exact h5
   ·intro hz;rcases List.mem_cons.1 ((h z).2 (List.mem_cons_of_mem _ hz)) with rfl | h5
    ·have:=h2.1 z hz;omega
    ·exact h5)]
theorem exL_all (g:Nat→In) (hg:∀ n,lineI (g n)) (r:List Nat) (n:Nat) (hm:∀ x,x∈r↔x<n) (h:r.Pairwise (fun p q=>p≠q∧(q<p→farF (g q) (g p)=0))) (s:Co):exL (r.map g) s=exL ((List.range n).map g) s:=by
 rw [exL_sort g hg r s (h.imp fun h=>h.2)]
 congr 2
 refine strict_eq ?_ List.pairwise_lt_range (fun x=>?_)
 ·have h1:=sortN_sorted r;have h2:(sortN r).Pairwise (· ≠ ·):=((sortN_perm r).pairwise_iff (fun h=>Ne.symm h)).2 (h.imp fun h=>h.1);exact List.Pairwise.imp₂ (fun a b h3 h4=>by omega) h1 h2
 ·rw [(sortN_perm r).mem_iff,hm,List.mem_range]
def entI (l:List In) (v:Int):In:=if 0≤v∧v<(l.length:Int) then l.getD v.toNat nopI else nopI
theorem pickF_map (l:List In) (o:List Int):pickF l o=o.map (entI l):=rfl
theorem exL_nats (l:List In):∀ (o:List Int) (s:Co),(∀ v∈o,v = -1∨∃ j:Nat,v=j∧j<l.length)→exL (o.map (entI l)) s=exL ((natsO o).map (gI l)) s
 | [],s,_=>rfl
 | v::o,s,h=>by
  have ih:=fun s=>exL_nats l o s (fun u hu=>h u (List.mem_cons_of_mem _ hu))
  rcases h v List.mem_cons_self with rfl | ⟨j,rfl,hj⟩
  ·rw [List.map_cons,show entI l (-1)=nopI from if_neg (by omega),exL_nop,ih];rfl
  ·have e:natsO ((j:Int)::o)=j::natsO o:=by
    unfold natsO;rw [List.filterMap_cons,if_pos (by omega),Int.toNat_natCast]
   rw [e,List.map_cons,List.map_cons,show entI l (j:Int)=gI l j by unfold entI gI;rw [if_pos (by omega),Int.toNat_natCast]];show (exR (gI l j) s).bd (exL (o.map (entI l)))=(exR (gI l j) s).bd (exL ((natsO o).map (gI l)))
   congr 1
   funext s
   exact ih s
theorem range_gI (l:List In):(List.range l.length).map (gI l)=l:=by
 refine List.ext_getElem (by simp) (fun i h1 h2=>?_);simp [gI,List.getD,h2]
theorem gI_line {l:List In} (h:∀ i∈l,lineI i) (n:Nat):lineI (gI l n):=by
 unfold gI;rw [List.getD_eq_getElem?_getD];cases hn:l[n]? with
 | none=>exact line_nop
 | some i=>exact h i (List.mem_of_getElem? hn)
theorem OrdG.ex {l:List In} {o:List Int} (h:OrdG l o) (hl:∀ i∈l,lineI i) (s:Co):exL (o.map (entI l)) s=exL l s:=by
 rw [exL_nats l o s h.low,exL_all (gI l) (gI_line hl) (natsO o) l.length ?_ ?_ s,range_gI]
 ·intro x;rw [mem_nats];constructor
  ·intro hx;rcases h.low _ hx with h1 | ⟨j,h1,hj⟩
   ·omega
   ·omega
  ·exact h.all x
 ·unfold natsO;rw [List.pairwise_filterMap];refine h.pw.imp fun {u v} huv a ha b hb=>?_
  have ea:u=(a:Int):=by
   split at ha
   ·have:=Option.some.inj ha;omega
   ·cases ha
  have eb:v=(b:Int):=by
   split at hb
   ·have:=Option.some.inj hb;omega
   ·cases hb
  exact huv a b ea eb
structure InvP (code:List In) (s:DS) (p:PS):Prop where
 mem:p.mem=s.c.mem
 inp:p.inp=s.c.inp
 out:p.out=s.c.out
 regs:(writeP p).regs=s.c.regs
 k:kIs code s p.k
 r:p.r=fetL code s.nx
 f:(stepD code s).1=0→p.f=fetL code (stepD code s).2.nx
 pc:(stepD code s).1=0→(stepD code (stepD code s).2).1=0→p.pc=(stepD code (stepD code s).2).2.nx
theorem step_go {code:List In} {s:DS} (h:(stepD code s).1=0):¬ offD code s.pc∧goodI (insD code s.pc)=true∧stepD code s=((exI (s.pc+2) (insD code s.pc) s.c).1,⟨(exI (s.pc+2) (insD code s.pc) s.c).2,s.nx,(jmpI (insD code s.pc) s.pc s.c).getD (s.nx+1)⟩):=by
 unfold stepD at h ⊢;split at h
 ·cases h
 ·rename_i h1;split at h
  ·cases h
  ·rename_i h2;have h3:goodI (insD code s.pc)=true:=by simpa using h2
   exact ⟨h1,h3,by rw [if_neg h1,if_neg (by rw [h3];simp)]⟩
theorem Acted.early {i:In} {s s':Co} {m:PS} {k A:Lt} (h:Acted i s s' m k A) (hg:goodI i=true) (hki:k.i=i) (hkr:k.reg=writesF i) (hkf:k.full=true) (hc:CoOk s) (hl:s.regs.length=32) {n:Int} (hn:0≤n∧n<32) (hz:n=0∨¬ (lateF i=true∧writesF i=n)):earlyP n k s.regs=rgX s' n:=by
 have hw:=(writes_in i).1;have hw2:=(writes_in i).2;have hr:=h.regs;have hrA:=h.reg;unfold earlyP rgX;rw [hkf,hkr,hki];by_cases h0:n=0
 ·subst h0;rw [if_neg (by simp),hr];split
  ·rename_i hne;rw [List.getD_eq_getElem?_getD,List.getD_eq_getElem?_getD,List.getElem?_set_ne (by rw [hrA] at hne ⊢;omega)]
  ·rfl
 ·rcases hz with hz | hz
  ·exact absurd hz h0
  ·by_cases he:writesF i=n
   ·have hlt:lateF i=false:=by
     cases hb:lateF i with
     | false=>rfl
     | true=>exact absurd ⟨hb,he⟩ hz
    rw [if_pos ⟨h0,rfl,he,hlt⟩,hr,if_pos (by rw [hrA,he];exact h0),hrA,he,h.val hlt,List.getD_eq_getElem?_getD,List.getElem?_set_self (by rw [hl];omega)];rfl
   ·rw [if_neg (by rintro ⟨_,_,h3,_⟩;exact he h3),hr];split
    ·rename_i hne;rw [hrA] at hne ⊢;rw [List.getD_eq_getElem?_getD,List.getD_eq_getElem?_getD,List.getElem?_set_ne (by omega)]
    ·rfl
theorem reads_of {j:In} (hg:goodI j=true) {n:Int} (hn:n∈(fieldsF j).1) (h0:n≠0):readsB j n=true:=by
 unfold readsB;rw [hg,decide_eq_true h0,List.contains_iff_mem.2 hn];rfl
theorem hz_reg {i j:In} (h:hzF i j=false) (hg:goodI j=true) {n:Int} (hn:n∈(fieldsF j).1):n=0∨¬ (lateF i=true∧writesF i=n):=by
 by_cases h0:n=0
 ·exact .inl h0
 ·right;rintro ⟨h1,h2⟩;unfold hzF at h;rw [h1,h2,reads_of hg hn h0] at h;cases h
theorem reck_is {code:List In} {t:DS} {k:Lt} {regs:List Int} (ea:¬ offD code t.pc→goodI (insD code t.pc)=true→∀ n,0≤n∧n<32→n∈(fieldsF (insD code t.pc)).1→earlyP n k regs=rgX t.c n):kIs code t (reckL k regs (fetL code t.pc)):=by
 unfold kIs;rw [fetL_eq];by_cases h1:offD code t.pc
 ·rw [if_pos h1,if_pos h1];exact ⟨rfl,rfl⟩
 have ea:=ea h1;rw [if_neg h1,if_neg h1];by_cases h2:goodI (insD code t.pc)=false
 ·rw [if_pos h2,if_pos h2];exact ⟨rfl,rfl⟩
 rw [if_neg h2,if_neg h2];have hj:goodI (insD code t.pc)=true:=by simpa using h2
 have ea:=ea hj;show (reckL k regs { lt0 with full:=true,pl:=t.pc,i:=insD code t.pc }).full=true∧kGood _ _ _ (reckL k regs { lt0 with full:=true,pl:=t.pc,i:=insD code t.pc })
 generalize insD code t.pc=j at *;have hrj:=rgI hj;have hop:=hrj.op;unfold reckL;rw [if_pos ⟨rfl,rfl⟩];dsimp only;unfold kGood;by_cases h14:j.op=14
 ·rw [if_pos h14,if_pos h14];have hf:(fieldsF j).1=[j.a]:=by unfold fieldsF;rw [if_neg (by omega),if_neg (by omega),if_neg (by omega),if_neg (by omega),if_pos (.inl h14)]
  rw [ea j.a hrj.a (by rw [hf];simp)];split
  ·exact ⟨rfl,rfl,rfl,rfl⟩
  ·exact ⟨rfl,rfl,rfl,rfl⟩
 rw [if_neg h14,if_neg h14];by_cases h18:j.op=18
 ·rw [if_pos h18,if_pos h18];exact ⟨rfl,rfl,rfl,rfl,rfl⟩
 rw [if_neg h18,if_neg h18];by_cases h20:j.op=20
 ·rw [if_pos h20,if_pos h20];refine ⟨rfl,rfl,rfl,rfl,fun h2=>?_⟩;have hf:(fieldsF j).1=[4]:=by unfold fieldsF;rw [if_neg (by omega),if_neg (by omega),if_neg (by omega),if_neg (by omega),if_neg (by omega),if_neg (by omega),if_pos h20,h2];rfl
  exact ea 4 (by decide) (by rw [hf];simp)
 rw [if_neg h20,if_neg h20]
 have hrec:reckonQ j (earlyP j.b k regs) (earlyP j.c k regs)=reckonQ j (rgX t.c j.b) (rgX t.c j.c):=by
  by_cases h9:1≤j.op∧j.op≤9
  ·have hf:(fieldsF j).1=[j.b,j.c]:=by unfold fieldsF;rw [if_pos h9]
   rw [ea j.b hrj.b (by rw [hf];simp),ea j.c hrj.c (by rw [hf];simp)]
  ·by_cases h10:j.op=10
   ·have hf:(fieldsF j).1=[j.b]:=by unfold fieldsF;rw [if_neg (by omega),if_pos (.inl h10)]
    rw [ea j.b hrj.b (by rw [hf];simp)];unfold reckonQ reckQ;simp [h10]
   ·by_cases h11:j.op=11
    ·unfold reckonQ reckQ;simp [h11]
    ·rw [reck_none (by omega),reck_none (by omega)]
 rw [hrec];refine ⟨rfl,rfl,rfl,rfl,rfl,fun h12=>?_,fun h13=>?_⟩
 ·have hb:j.b∈(fieldsF j).1:=by
   unfold fieldsF;rw [if_neg (by omega)];rcases h12 with h12 | h12
   ·rw [if_pos (.inr h12)];simp
   ·rw [if_neg (by omega),if_neg (by omega),if_pos (.inl h12)];simp
  show w32 (earlyP j.b k regs+j.imm)=_
  rw [ea j.b hrj.b hb]
 ·have hb:j.a∈(fieldsF j).1:=by
   unfold fieldsF;rw [if_neg (by omega),if_neg (by omega),if_neg (by omega),if_pos (.inl h13)];simp
  exact ea j.a hrj.a hb
theorem now_is {i j:In} {s t u:Co} {m m2 m3:PS} {k A k2 A2:Lt} (h:Acted i s t m k A) (h2:Acted j t u m2 k2 A2) (hj:goodI j=true) (hk2i:k2.i=j) (hk2r:k2.reg=writesF j) (hk2f:k2.full=true) (hc:CoOk s) (hct:CoOk t) (e1:m3.regs=s.regs) (e2:m3.a=A) (e3:m3.k=k2) {n:Int} (hn:0≤n∧n<32) (hz:n=0∨¬ (lateF j=true∧writesF j=n)):nowP n m3=rgX u n:=by
 rw [← h2.early hj hk2i hk2r hk2f hct hct.rl hn hz];have hr:=h.regs;have hw:=(writes_in i).1;unfold nowP;rw [e1,e2,e3];by_cases h0:n≠0∧A.full=true∧A.reg=n
 ·rw [if_pos h0,hr,if_pos (by rw [h0.2.2];exact h0.1),h0.2.2]
 ·rw [if_neg h0];unfold earlyP;split
  ·rfl
  ·rw [hr];split
   ·rename_i hne;by_cases hn0:n=0
    ·subst hn0;rw [List.getD_eq_getElem?_getD,List.getD_eq_getElem?_getD,List.getElem?_set_ne (by rw [h.reg] at hne ⊢;omega)]
    ·have:A.reg≠n:=fun he=>h0 ⟨hn0,h.full,he⟩
     rw [List.getD_eq_getElem?_getD,List.getD_eq_getElem?_getD,List.getElem?_set_ne (by rw [h.reg] at hne this ⊢;omega)]
   ·rfl
theorem wP_mem (m:PS):(writeP m).mem=m.mem:=by unfold writeP;split <;> rfl
theorem wP_inp (m:PS):(writeP m).inp=m.inp:=by unfold writeP;split <;> rfl
theorem wP_out (m:PS):(writeP m).out=m.out:=by unfold writeP;split <;> rfl
theorem runP_s (code:List In) (f:Nat) (m:PS):runP code (f+1) m=if (cycP code m).1=0 then ((runP code f (cycP code m).2).1,(runP code f (cycP code m).2).2.1+1,(runP code f (cycP code m).2).2.2) else ((cycP code m).1,1,(cycP code m).2):=rfl
theorem dec_is {code:List In} {t:DS} {m:PS} (ht:(stepD code t).1=0) (hp:m.pc=t.nx) (en:∀ n,0≤n∧n<32→n∈(fieldsF (insD code t.pc)).1→nowP n m=rgX t.c n):decL (fetL code t.pc) m=(stepD code t).2.nx:=by
 obtain ⟨h1,h2,h3⟩:=step_go ht;rw [h3];dsimp only
 have hf:fetL code t.pc={ lt0 with full:=true,pl:=t.pc,i:=insD code t.pc }:=by
  rw [fetL_eq,if_neg h1,if_neg (by rw [h2];simp)]
 rw [hf];generalize insD code t.pc=j at *;have hr:=rgI h2;unfold decL jmpI;dsimp only;rw [if_neg (by rintro (h | h) <;> simp [lt0] at h)];by_cases h15:j.op=15∨j.op=16
 ·have hfi:(fieldsF j).1=[j.a,j.b]:=by unfold fieldsF;rw [if_neg (by omega),if_neg (by omega),if_neg (by omega),if_pos (by omega)]
  rw [if_pos h15,if_pos h15,en j.a hr.a (by rw [hfi];simp),en j.b hr.b (by rw [hfi];simp),hp];split <;> rfl
 ·rw [if_neg h15,if_neg h15];by_cases h17:j.op=17∨j.op=18
  ·rw [if_pos h17,if_pos h17];rfl
  ·rw [if_neg h17,if_neg h17];by_cases h19:j.op=19
   ·have hfi:(fieldsF j).1=[j.a]:=by unfold fieldsF;rw [if_neg (by omega),if_neg (by omega),if_neg (by omega),if_neg (by omega),if_pos (.inr h19)]
    rw [if_pos h19,if_pos h19,en j.a hr.a (by rw [hfi];simp)];rfl
   ·rw [if_neg h19,if_neg h19,hp];rfl
theorem step_ok {code:List In} {s:DS} (hl:code.length≤4096) (hc:CoOk s.c):CoOk (stepD code s).2.c:=by
 unfold stepD;split
 ·exact hc
 ·rename_i h1;split
  ·exact hc
  ·rename_i h2;unfold offD at h1;exact hc.ex ⟨by omega,by omega⟩ (by simpa using h2)
theorem kIs.acted {code:List In} {s:DS} {k:Lt} (h:kIs code s k) (hs:(stepD code s).1=0) (hc:CoOk s.c) (m:PS) (e1:m.mem=s.c.mem) (e2:m.inp=s.c.inp) (e3:m.out=s.c.out) :
  (actL k m).1=0∧∃ A,(actL k m).2={ m with mem:=(stepD code s).2.c.mem,inp:=(stepD code s).2.c.inp,out:=(stepD code s).2.c.out,a:=A }∧Acted (insD code s.pc) s.c (stepD code s).2.c m k A:=by
 obtain ⟨h1,h2,h3⟩:=step_go hs;obtain ⟨hf,hk⟩:=h;rw [if_neg h1,if_neg (by rw [h2];simp)] at hk;obtain ⟨g1,g2,g3⟩:=hk.act hf h2 hc m e1 e2 e3;rw [h3] at hs ⊢;exact ⟨g1.trans hs,g3 hs⟩
theorem kIs.trap {code:List In} {s:DS} {k:Lt} (h:kIs code s k) (hc:CoOk s.c) (m:PS) (e1:m.mem=s.c.mem) (e2:m.inp=s.c.inp) (e3:m.out=s.c.out):(actL k m).1=(stepD code s).1∧(actL k m).2.out=(stepD code s).2.c.out:=by
 obtain ⟨hf,hk⟩:=h;unfold stepD;by_cases h1:offD code s.pc
 ·rw [if_pos h1] at hk;rw [if_pos h1];unfold actL;rw [if_pos (.inr (by rw [hk];simp))];exact ⟨hk,e3⟩
 rw [if_neg h1] at hk;rw [if_neg h1];by_cases h2:goodI (insD code s.pc)=false
 ·rw [if_pos h2] at hk;rw [if_pos h2];unfold actL;rw [if_pos (.inr (by rw [hk];simp))];exact ⟨hk,e3⟩
 rw [if_neg h2] at hk;rw [if_neg h2];obtain ⟨g1,g2,_⟩:=hk.act hf (by simpa using h2) hc m e1 e2 e3;exact ⟨g1,g2⟩
theorem InvP.cyc {code:List In} {s:DS} {p:PS} (h:InvP code s p) (hl:code.length≤4096) (hc:CoOk s.c) (hz:(stepD code s).1=0→Hz code s) (hz2:(stepD code s).1=0→(stepD code (stepD code s).2).1=0→Hz code (stepD code s).2) :
  (cycP code p).1=(stepD code s).1∧(cycP code p).2.out=(stepD code s).2.c.out∧((stepD code s).1=0→InvP code (stepD code s).2 (cycP code p).2):=by
 obtain ⟨e1,e2,e3,e4,e5,e6,e7,e8⟩:=h;have w1:(writeP p).mem=p.mem:=wP_mem p;have w2:(writeP p).inp=p.inp:=wP_inp p;have w3:(writeP p).out=p.out:=wP_out p;have w4:(writeP p).k=p.k:=by unfold writeP;split <;> rfl
 have w5:(writeP p).r=p.r:=by unfold writeP;split <;> rfl
 have w6:(writeP p).f=p.f:=by unfold writeP;split <;> rfl
 have w7:(writeP p).pc=p.pc:=by unfold writeP;split <;> rfl
 rw [← w1] at e1;rw [← w2] at e2;rw [← w3] at e3;rw [← w4] at e5;rw [← w5] at e6;rw [← w6] at e7;rw [← w7] at e8;unfold cycP;dsimp only;generalize writeP p=m at *;clear w1 w2 w3 w4 w5 w6 w7;have hout:(fetP code (decP (reckP m.k (actP m).2)).1 (decP (reckP m.k (actP m).2)).2).out=(actP m).2.out:=rfl;rw [hout];by_cases hs:(stepD code s).1=0
 ·obtain ⟨h1,h2,h3⟩:=step_go hs;have hk0:=e5;obtain ⟨hf,hk⟩:=e5;rw [if_neg h1,if_neg (by rw [h2];simp)] at hk;obtain ⟨a1,A,a2,hA⟩:=hk0.acted hs hc { m with k:=lt0 } e1 e2 e3;have hact:actP m=actL m.k { m with k:=lt0 }:=rfl;rw [hact,a2,hs];refine ⟨a1,rfl,fun _=>?_⟩;dsimp only;have hz:=hz hs;have hpc1:(stepD code s).2.pc=s.nx:=by rw [h3]
  unfold Hz at hz;rw [← hpc1] at hz e6;have hc1:CoOk (stepD code s).2.c:=step_ok hl hc;have e7:=e7 hs;have e8:=e8 hs;have hz2:=hz2 hs;generalize (stepD code s).2=t at *;have hk2:kIs code t (reckL m.k s.c.regs (fetL code t.pc)):=reck_is (fun _ hj n hn hm=>hA.early h2 hk.1 hk.2.1 hf hc hc.rl hn (hz_reg hz hj hm));refine ⟨rfl,rfl,rfl,?_,?_,?_,?_,?_⟩
  ·show (writeP (fetP code _ _)).regs=t.c.regs
   rw [hA.regs];unfold writeP;show (if A.full=true∧A.reg≠0 then _ else _:PS).regs=_
   rw [← e4];by_cases hr:A.reg≠0
   ·rw [if_pos ⟨hA.full,hr⟩,if_pos hr];rfl
   ·rw [if_neg (fun h=>hr h.2),if_neg hr];rfl
  ·show kIs code t (reckL m.k m.regs m.r)
   rw [e4,e6];exact hk2
  ·exact e7
  ·intro ht;show fetL code m.pc=_
   rw [e8 ht]
  ·intro ht hu;obtain ⟨h4,h5,h6⟩:=step_go ht;have hzt:=hz2 ht;unfold Hz at hzt;have e8:=e8 ht;have hpc2:(stepD code t).2.pc=t.nx:=by rw [h6]
   rw [← hpc2] at hzt e7;have hc2:CoOk (stepD code t).2.c:=step_ok hl hc1;obtain ⟨_,A2,_,hA2⟩:=hk2.acted ht hc1 { m with mem:=t.c.mem,inp:=t.c.inp,out:=t.c.out } rfl rfl rfl;generalize (stepD code t).2=u at *;have hk2':=hk2;obtain ⟨hf2,hg2⟩:=hk2;rw [if_neg h4,if_neg (by rw [h5];simp)] at hg2;show decL m.f _=_
   rw [e7];refine dec_is hu e8 (fun n hn hm=>?_);refine now_is hA hA2 h5 hg2.1 hg2.2.1 hf2 hc hc1 ?_ ?_ ?_ hn (hz_reg hzt (step_go hu).2.1 hm)
   ·exact e4
   ·rfl
   show reckL m.k m.regs m.r=_
   rw [e4,e6]
 ·obtain ⟨g1,g2⟩:=e5.trap hc { m with k:=lt0 } e1 e2 e3;exact ⟨g1,g2,fun h=>absurd h hs⟩
def okD (code:List In):Nat→DS→Prop
 | 0,s=>True
 | k+1,s=>(stepD code s).1=0∧Hz code s∧okD code k (stepD code s).2
def itD (code:List In):Nat→DS→DS
 | 0,s=>s
 | k+1,s=>itD code k (stepD code s).2
theorem runP_D {code:List In} (hl:code.length≤4096):∀ (k:Nat) (s:DS) (p:PS) (f:Nat) (t:Int),InvP code s p→CoOk s.c→okD code k s→(stepD code (itD code k s)).1=t→t≠0→∃ q,runP code (k+1+f) p=(t,(k:Int)+1,q)∧q.out=(stepD code (itD code k s)).2.c.out
 | 0,s,p,f,t,hi,hc,_,ht,h0=>by
  have ht:(stepD code s).1=t:=ht;obtain ⟨g1,g2,_⟩:=hi.cyc hl hc (fun h=>absurd (ht.symm.trans h) h0) (fun h=>absurd (ht.symm.trans h) h0);refine ⟨(cycP code p).2,?_,g2⟩;rw [show 0+1+f=f+1 by omega,runP_s,g1,ht,if_neg h0];rfl
 | k+1,s,p,f,t,hi,hc,hok,ht,h0=>by
  obtain ⟨h1,h2,h3⟩:=hok;have ht:(stepD code (itD code k (stepD code s).2)).1=t:=ht
  have hz2:(stepD code (stepD code s).2).1=0→Hz code (stepD code s).2:=by
   intro h4;cases k with
   | zero=>exact absurd (ht.symm.trans h4) h0
   | succ k=>exact h3.2.1
  obtain ⟨g1,g2,g3⟩:=hi.cyc hl hc (fun _=>h2) (fun _=>hz2);obtain ⟨q,g4,g5⟩:=runP_D hl k _ _ f t (g3 h1) (step_ok hl hc) h3 ht h0;refine ⟨q,?_,g5⟩;rw [show k+1+1+f=(k+1+f)+1 by omega,runP_s,g1,if_pos h1,g4];simp only [Prod.mk.injEq,true_and,and_true];omega
def co0 (mem:Nat) (inp:List Int):Co:=⟨List.replicate 32 0,List.replicate mem 0,inp,[]⟩
def ds0 (mem:Nat) (inp:List Int):DS:=⟨co0 mem inp,0,1⟩
theorem co0_ok (mem:Nat) (inp:List Int):CoOk (co0 mem inp):=by
 refine ⟨by simp [co0],?_,by simp [co0],?_⟩
 ·intro r hr;simp only [co0,List.mem_replicate] at hr;rw [hr.2];exact zero_in
 ·intro r hr;simp only [co0,List.mem_replicate] at hr;rw [hr.2];exact zero_in
theorem zeros_get (n k:Nat):(List.replicate n (0:Int)).getD k 0=0:=by
 rw [List.getD_eq_getElem?_getD,List.getElem?_replicate];split <;> rfl
theorem start_D {code:List In} (hl:code.length≤4096) (mem:Nat) (inp:List Int) (hz:(stepD code (ds0 mem inp)).1=0→Hz code (ds0 mem inp)):∃ p,(∀ f,runP code (f+3) (ps0 mem inp)=((runP code f p).1,(runP code f p).2.1+3,(runP code f p).2.2))∧InvP code (ds0 mem inp) p:=by
 have hc0:=co0_ok mem inp;let p1:PS:={ ps0 mem inp with f:=fetL code 0,pc:=1 }
 have c1:cycP code (ps0 mem inp)=(0,p1):=rfl;let n2:=decL (fetL code 0) { ps0 mem inp with r:=fetL code 0,pc:=1 }
 let p2:PS:={ ps0 mem inp with f:=fetL code 1,r:=fetL code 0,pc:=n2 }
 have c2:cycP code p1=(0,p2):=rfl;let k3:=reckL lt0 (ps0 mem inp).regs (fetL code 0)
 let n3:=decL (fetL code 1) { ps0 mem inp with r:=fetL code 1,k:=k3,pc:=n2 }
 let p3:PS:={ ps0 mem inp with f:=fetL code n2,r:=fetL code 1,k:=k3,pc:=n3 }
 have c3:cycP code p2=(0,p3):=rfl;refine ⟨p3,fun f=>?_,?_⟩
 ·rw [show f+3=f+2+1 from rfl,runP_s,c1,if_pos rfl,show f+2=f+1+1 from rfl,runP_s,c2,if_pos rfl,runP_s,c3,if_pos rfl];simp only [Prod.mk.injEq,true_and,and_true];omega
 have hreg:∀ n:Int,(ps0 mem inp).regs.getD n.toNat 0=rgX (co0 mem inp) n:=fun n=>rfl
 have hk:kIs code (ds0 mem inp) k3:=reck_is (t:=ds0 mem inp) (fun _ _ n hn hm=>by
  unfold earlyP;rw [if_neg (by rintro ⟨_,h,_⟩;cases h)];rfl)
 have hn2:(stepD code (ds0 mem inp)).1=0→n2=(stepD code (ds0 mem inp)).2.nx:=fun h=>dec_is (t:=ds0 mem inp) h rfl (fun n hn hm=>by
  unfold nowP earlyP;rw [if_neg (by rintro ⟨_,h,_⟩;cases h),if_neg (by rintro ⟨_,h,_⟩;cases h)];rfl)
 refine ⟨rfl,rfl,rfl,rfl,hk,rfl,?_,?_⟩
 ·intro h;show fetL code n2=_
  rw [hn2 h]
 ·intro h1 h2;show n3=_
  obtain ⟨g1,g2,g3⟩:=step_go h1;have hz:=hz h1;unfold Hz at hz;obtain ⟨_,A,_,hA⟩:=hk.acted h1 hc0 (ps0 mem inp) rfl rfl rfl;obtain ⟨hf,hg⟩:=hk;rw [if_neg g1,if_neg (by rw [g2];simp)] at hg;have hpc:(stepD code (ds0 mem inp)).2.pc=1:=by rw [g3];rfl
  have hn2:=hn2 h1;generalize (stepD code (ds0 mem inp)).2=t at *;show decL (fetL code 1) _=_
  rw [← hpc];refine dec_is h2 hn2 (fun n hn hm=>?_);have hz':hzF (insD code (ds0 mem inp).pc) (insD code t.pc)=false:=by rw [hpc];exact hz
  have h3:=hA.early g2 hg.1 hg.2.1 hf hc0 hc0.rl hn (hz_reg hz' (step_go h2).2.1 hm);unfold nowP;rw [if_neg (by rintro ⟨_,h,_⟩;cases h)];exact h3
theorem pip_D {code:List In} (hl:code.length≤4096) {mem:Nat} (hm:mem≤32000) {inp:List Int} {k fuel:Nat} {t:Int} (hok:okD code k (ds0 mem inp)) (ht:(stepD code (itD code k (ds0 mem inp))).1=t) (h0:t≠0) (hf:k+4≤fuel):∃ u,pipQ code (mem:Int) inp (fuel:Int)=(t,(k:Int)+4,(stepD code (itD code k (ds0 mem inp))).2.c.out,u):=by
 have hz:(stepD code (ds0 mem inp)).1=0→Hz code (ds0 mem inp):=by
  intro h;cases k with
  | zero=>exact absurd (ht.symm.trans h) h0
  | succ k=>exact hok.2.1
 obtain ⟨p,h1,h2⟩:=start_D hl mem inp hz;obtain ⟨f,rfl⟩:∃ f,fuel=k+1+f+3:=⟨fuel-(k+4),by omega⟩
 obtain ⟨q,h3,h4⟩:=runP_D hl k _ p f t h2 (co0_ok mem inp) hok ht h0;refine ⟨usedQ q.mem,?_⟩;unfold pipQ;rw [if_neg (by omega)];dsimp only;rw [Int.toNat_natCast,Int.toNat_natCast,h1,h3,← h4];dsimp only;simp only [Prod.mk.injEq,true_and,and_true];omega
def hzC (l:List In):Prop:=∀ (p:Nat) (a b:In),l[p]? = some a→l[p+1]? = some b→hzF a b=false
theorem hzF_nop (j:In):hzF nopI j=false:=by
 unfold hzF;rw [show lateF nopI=false by decide +kernel];rfl
theorem readsB_0 (j:In):readsB j 0=false:=by unfold readsB;simp
theorem hz_nop (i:In):hzF i nopI=false:=by
 unfold hzF
 have:readsB nopI (writesF i)=false:=by
  unfold readsB;have:(fieldsF nopI).1=[]:=by decide +kernel
  rw [this];simp
 rw [this,Bool.and_false]
theorem goes_late {i:In} (h:goesF i=true):lateF i=false:=by
 unfold goesF at h;rw [Bool.and_eq_true,decide_eq_true_eq] at h;unfold lateF;rw [decide_eq_false (by omega),decide_eq_false (show ¬ i.op=20 by omega)];simp
theorem goes_hz {i:In} (h:goesF i=true) (j:In):hzF i j=false:=by unfold hzF;rw [goes_late h];rfl
theorem hzC_snoc {l:List In} {b:In} (h:hzC l) (hb:∀ a,l[l.length-1]? = some a→hzF a b=false):hzC (l++[b]):=by
 intro p x y hx hy;have hp:=(List.getElem?_eq_some_iff.1 hy).1;simp only [List.length_append,List.length_singleton] at hp;rw [List.getElem?_append_left (by omega)] at hx;by_cases hl:p+1<l.length
 ·rw [List.getElem?_append_left hl] at hy;exact h p x y hx hy
 ·rw [List.getElem?_append_right (by omega),show p+1-l.length=0 by omega] at hy;have:b=y:=by simpa using hy
  subst this;rw [show p=l.length-1 by omega] at hx;exact hb x hx
theorem getElem?_map_some {α β:Type} {f:α→β} {l:List α} {p:Nat} {b:β} (h:(l.map f)[p]? = some b):∃ a,l[p]? = some a∧f a=b:=by
 rw [List.getElem?_map] at h;cases ha:l[p]? with
 | none=>rw [ha] at h;cases h
 | some a=>rw [ha] at h;exact ⟨a,rfl,Option.some.inj h⟩
theorem OrdG.hzC {l m:List In} {o:List Int} (h:OrdG l o) (hm:∀ j,j<l.length→gI m j=gI l j) (hlen:l.length≤m.length):Go.Proofs.YtkolmklfgbimoaaGreatDoor.hzC (o.map (entI m)):=by
 intro p x y hx hy;obtain ⟨u,hu,rfl⟩:=getElem?_map_some hx;obtain ⟨v,hv,rfl⟩:=getElem?_map_some hy;rcases h.low u (List.mem_of_getElem? hu) with rfl | ⟨a,rfl,ha⟩
 ·rw [show entI m (-1)=nopI from if_neg (by omega)];exact hzF_nop _
 rcases h.low v (List.mem_of_getElem? hv) with rfl | ⟨b,rfl,hb⟩
 ·rw [show entI m (-1)=nopI from if_neg (by omega)];exact hz_nop _
 have ent:∀ j,j<l.length→entI m (j:Int)=gI l j:=fun j hj=>by
  unfold entI;rw [if_pos (by omega),Int.toNat_natCast];exact hm j hj
 rw [ent a ha,ent b hb];exact h.hz p a b hu hv
theorem clearG_at (l:List In) (last:In) (p:Int):∀ (o:List Int) (k:Nat),clearG l last p k o=true→∀ (q:Nat) (v:Int),o[q]? = some v→0≤v→(k:Int)+q+farF (l.getD v.toNat nopI) last≤p
 | [],k,_,q,v,h,_=>by simp at h
 | n::o,k,hc,q,v,h,h0=>by
  unfold clearG at hc;split at hc
  ·cases hc
  ·rename_i hn;cases q with
   | zero=>
    have:n=v:=by simpa using h
    subst this;omega
   | succ q=>
    have:=clearG_at l last p o (k+1) hc q v (by simpa using h) h0;omega
theorem far_hz {a b:In} (h:farF a b≤1):hzF a b=false:=by
 cases hz:hzF a b with
 | false=>rfl
 | true=>
  unfold hzF at hz;rw [Bool.and_eq_true] at hz;have:farF a b=2:=by unfold farF;rw [hz.1,hz.2];rfl
  omega
theorem far_nop (b:In):farF nopI b=0:=by
 unfold farF;have h1:writesF nopI=0:=by decide +kernel
 have h2:readsB nopI (writesF b)=false:=by
  unfold readsB;have:(fieldsF nopI).1=[]:=by decide +kernel
  rw [this];simp
 have h3:actsF nopI=false:=by decide +kernel
 rw [h1,h2,h3,readsB_0];simp
structure LayG (L:List In) (last:In) (Q:List Int) (x:Int):Prop where
 eq:layF (L++[last])=Q++[(L.length:Int),x]
 ex:∀ s,exL (Q.map (entI (L++[last]))++[entI (L++[last]) x]) s=exL L s
 line:∀ v∈Q,lineI (entI (L++[last]) v) ∧ -1≤v∧v<(L.length:Int)
 slot:lineI (entI (L++[last]) x)∧lateF (entI (L++[last]) x)=false∧farF (entI (L++[last]) x) last=0 ∧ -1≤x∧x<(L.length:Int)
 hz:hzC (Q.map (entI (L++[last]))++[last])
 len:Q.length+2≤2*(L.length+1)+1
theorem getD_app_left {L:List In} {last:In} {j:Nat} (h:j<L.length):(L++[last]).getD j nopI=L.getD j nopI:=by
 rw [List.getD_eq_getElem?_getD,List.getD_eq_getElem?_getD,List.getElem?_append_left h]
theorem ent_app {L:List In} {last:In} {v:Int} (h:v = -1∨∃ j:Nat,v=j∧j<L.length):entI (L++[last]) v=entI L v:=by
 rcases h with rfl | ⟨j,rfl,hj⟩
 ·rw [show entI L (-1)=nopI from if_neg (by omega),show entI (L++[last]) (-1)=nopI from if_neg (by omega)]
 ·unfold entI;rw [if_pos (by simp;omega),if_pos (by omega),Int.toNat_natCast,getD_app_left hj]
theorem ent_line {L:List In} (h:∀ i∈L,lineI i) (v:Int):lineI (entI L v):=by
 unfold entI;split
 ·exact gI_line h _
 ·exact line_nop
theorem lay_goes {L:List In} {last:In} (hL:∀ i∈L,lineI i) (hg:goesF last=true):∃ Q x,LayG L last Q x:=by
 have ho:=orderF_all L;have hex:=ho.ex hL;have e0:(L++[last])≠[]:=by simp
 have e1:(L++[last]).length-1=L.length:=by simp
 have e2:(L++[last]).getD L.length nopI=last:=by
  rw [List.getD_eq_getElem?_getD,List.getElem?_append_right (Nat.le_refl _),Nat.sub_self];rfl
 have e3:(L++[last]).take L.length=L:=by simp
 have emap:∀ o:List Int,(∀ v∈o,v = -1∨∃ j:Nat,v=j∧j<L.length)→o.map (entI (L++[last]))=o.map (entI L):=fun o h=>List.map_congr_left fun v hv=>ent_app (h v hv)
 have ehz:hzC ((orderF L).map (entI (L++[last]))):=ho.hzC (fun j hj=>getD_app_left hj) (by simp)
 have elow:∀ v∈orderF L,lineI (entI (L++[last]) v) ∧ -1≤v∧v<(L.length:Int):=fun v hv=>by
  rw [ent_app (ho.low v hv)];refine ⟨ent_line hL v,?_⟩;rcases ho.low v hv with rfl | ⟨j,rfl,hj⟩ <;> omega
 have hlay:layF (L++[last])=(if decide (orderF L≠[]) && !lateF ((L++[last]).getD ((orderF L).getD ((orderF L).length-1) 0).toNat nopI) && decide (farF ((L++[last]).getD ((orderF L).getD ((orderF L).length-1) 0).toNat nopI) last=0) && clearF (L++[last]) ((orderF L).take ((orderF L).length-1)) last (((orderF L).length-1:Nat):Int) then (orderF L).take ((orderF L).length-1)++[(L.length:Int),(orderF L).getD ((orderF L).length-1) 0] else padG (L++[last]) (orderF L) last++[(L.length:Int),-1]):=by
  unfold layF;rw [if_neg e0];dsimp only;rw [e1,e2,if_pos hg,e3]
 by_cases hc:(decide (orderF L≠[]) && !lateF ((L++[last]).getD ((orderF L).getD ((orderF L).length-1) 0).toNat nopI) && decide (farF ((L++[last]).getD ((orderF L).getD ((orderF L).length-1) 0).toNat nopI) last=0) && clearF (L++[last]) ((orderF L).take ((orderF L).length-1)) last (((orderF L).length-1:Nat):Int))=true
 ·rw [if_pos hc] at hlay;simp only [Bool.and_eq_true,decide_eq_true_eq,Bool.not_eq_true'] at hc;obtain ⟨⟨⟨c1,c2⟩,c3⟩,c4⟩:=hc
  have hLne:L≠[]:=by
   rintro rfl;exact c1 (by decide +kernel)
  obtain ⟨o',b,hob,hb⟩:=orderF_spec L hLne;have hlen:(orderF L).length-1=o'.length:=by rw [hob];simp
  have htake:(orderF L).take o'.length=o':=by rw [hob];simp
  have hget:(orderF L).getD o'.length 0=(b:Int):=by rw [hob,List.getD_eq_getElem?_getD,List.getElem?_append_right (Nat.le_refl _),Nat.sub_self];rfl
  rw [hlen,hget,Int.toNat_natCast] at c2 c3;rw [hlen,htake] at c4;rw [hlen,htake,hget] at hlay;have hent:entI (L++[last]) (b:Int)=(L++[last]).getD b nopI:=by unfold entI;rw [if_pos (by simp;omega),Int.toNat_natCast]
  have hmem:∀ v∈o',v∈orderF L:=fun v hv=>by rw [hob];exact List.mem_append_left _ hv
  refine ⟨o',(b:Int),hlay,fun s=>?_,fun v hv=>elow v (hmem v hv),⟨?_,?_,?_,by omega,by omega⟩,?_,?_⟩
  ·rw [← hex s,← emap _ ho.low,hob,List.map_append];rfl
  ·rw [ent_app (.inr ⟨b,rfl,hb⟩)];exact ent_line hL _
  ·rw [hent];exact c2
  ·rw [hent];exact c3
  ·refine hzC_snoc (fun p x y hx hy=>?_) (fun a ha=>?_)
   ·refine ehz p x y ?_ ?_
    ·rw [hob,List.map_append,List.getElem?_append_left (List.getElem?_eq_some_iff.1 hx).1,hx]
    ·rw [hob,List.map_append,List.getElem?_append_left (List.getElem?_eq_some_iff.1 hy).1,hy]
   ·obtain ⟨v,hv,rfl⟩:=getElem?_map_some ha;rw [List.length_map] at hv;have hvm:=List.mem_of_getElem? hv;rcases ho.low v (hmem v hvm) with rfl | ⟨j,rfl,hj⟩
    ·rw [show entI (L++[last]) (-1)=nopI from if_neg (by omega)];exact hzF_nop _
    ·have hp:=(List.getElem?_eq_some_iff.1 hv).1;have:=clearG_at _ _ _ o' 0 c4 _ _ hv (by omega);rw [Int.toNat_natCast] at this;refine far_hz ?_;have:entI (L++[last]) (j:Int)=(L++[last]).getD j nopI:=by unfold entI;rw [if_pos (by simp;omega),Int.toNat_natCast]
     rw [this];omega
  ·have:=ho.len;rw [hob,List.length_append,List.length_singleton] at this;omega
 ·rw [if_neg hc] at hlay;have hl2:=ho.len;have hnop:entI (L++[last]) (-1)=nopI:=if_neg (by omega);unfold padG at hlay;by_cases hcl:clearF (L++[last]) (orderF L) last ((orderF L).length:Int)=true
  ·rw [if_pos hcl] at hlay;refine ⟨orderF L,-1,hlay,fun s=>?_,elow,⟨?_,?_,?_,by omega,by omega⟩,?_,by omega⟩
   ·rw [hnop,exL_app,emap _ ho.low,hex];have:exL [nopI]=Ro.ok:=funext fun s=>exL_nop [] s
    rw [this];cases exL L s <;> rfl
   ·rw [hnop];exact line_nop
   ·rw [hnop];decide +kernel
   ·rw [hnop];exact far_nop _
   ·refine hzC_snoc ehz (fun a ha=>?_);obtain ⟨v,hv,rfl⟩:=getElem?_map_some ha;rw [List.length_map] at hv;rcases ho.low v (List.mem_of_getElem? hv) with rfl | ⟨j,rfl,hj⟩
    ·rw [hnop];exact hzF_nop _
    ·have hp:=(List.getElem?_eq_some_iff.1 hv).1;have:=clearG_at _ _ _ _ 0 hcl _ _ hv (by omega);rw [Int.toNat_natCast] at this;refine far_hz ?_;have:entI (L++[last]) (j:Int)=(L++[last]).getD j nopI:=by unfold entI;rw [if_pos (by simp;omega),Int.toNat_natCast]
     rw [this];omega
  ·rw [if_neg hcl] at hlay;refine ⟨orderF L++[-1],-1,hlay,fun s=>?_,fun v hv=>?_,⟨?_,?_,?_,by omega,by omega⟩,?_,by rw [List.length_append,List.length_singleton];omega⟩
   ·rw [List.map_append,List.map_cons,List.map_nil,hnop,List.append_assoc,exL_app,emap _ ho.low,hex]
    have:exL ([nopI]++[nopI])=Ro.ok:=funext fun s=>by
     show exL (nopI::[nopI]) s=_
     rw [exL_nop,exL_nop];rfl
    rw [this];cases exL L s <;> rfl
   ·rcases List.mem_append.1 hv with hv | hv
    ·exact elow v hv
    ·rw [List.mem_singleton.1 hv,hnop];exact ⟨line_nop,by omega,by omega⟩
   ·rw [hnop];exact line_nop
   ·rw [hnop];decide +kernel
   ·rw [hnop];exact far_nop _
   ·rw [List.map_append,List.map_cons,List.map_nil,hnop];refine hzC_snoc (hzC_snoc ehz (fun a _=>hz_nop a)) (fun a ha=>?_);rw [List.length_append,List.length_singleton,Nat.add_sub_cancel,List.getElem?_append_right (Nat.le_refl _),Nat.sub_self] at ha;have:nopI=a:=by simpa using ha
    rw [← this];exact hzF_nop _
structure LayN (L:List In) (O:List Int):Prop where
 eq:layF L=O
 ex:∀ s,exL (O.map (entI L)) s=exL L s
 line:∀ v∈O,lineI (entI L v) ∧ -1≤v∧v<(L.length:Int)
 hz:∀ b,hzC (O.map (entI L)++[b])
 len:O.length≤2*L.length+1
 ne:O≠[]
theorem lay_line {L:List In} (hL:∀ i∈L,lineI i) (hne:L≠[]):∃ O,LayN L O:=by
 have ho:=orderF_all L;have hex:=ho.ex hL;have hl2:=ho.len;have ehz:hzC ((orderF L).map (entI L)):=ho.hzC (fun j hj=>rfl) (Nat.le_refl _)
 have elow:∀ v∈orderF L,lineI (entI L v) ∧ -1≤v∧v<(L.length:Int):=fun v hv=>by
  refine ⟨ent_line hL v,?_⟩;rcases ho.low v hv with rfl | ⟨j,rfl,hj⟩ <;> omega
 obtain ⟨o',b,hob,hb⟩:=orderF_spec L hne;have hlen:(orderF L).length-1=o'.length:=by rw [hob];simp
 have hget:(orderF L).getD o'.length 0=(b:Int):=by rw [hob,List.getD_eq_getElem?_getD,List.getElem?_append_right (Nat.le_refl _),Nat.sub_self];rfl
 have hgo:goesF (L.getD (L.length-1) nopI)=false:=(gI_line hL _).2
 have hlay:layF L=if lateF (L.getD b nopI) then orderF L++[-1] else orderF L:=by
  unfold layF;rw [if_neg hne];dsimp only;rw [hgo,if_neg (by simp),hlen,hget,Int.toNat_natCast,decide_eq_true (show (0:Int)≤(b:Int) by omega),Bool.true_and]
 have hnop:entI L (-1)=nopI:=if_neg (by omega)
 have hlast:∀ a,((orderF L).map (entI L))[((orderF L).map (entI L)).length-1]? = some a→a=L.getD b nopI:=by
  intro a ha;rw [List.length_map,hlen,List.getElem?_map,hob,List.getElem?_append_right (Nat.le_refl _),Nat.sub_self] at ha;have:entI L (b:Int)=a:=by simpa using ha
  rw [← this];unfold entI;rw [if_pos (by omega),Int.toNat_natCast]
 have hone:orderF L≠[]:=by rw [hob];simp
 cases hlt:lateF (L.getD b nopI) with
 | true=>
  rw [hlt,if_pos rfl] at hlay;refine ⟨_,hlay,fun s=>?_,fun v hv=>?_,fun b=>?_,by rw [List.length_append,List.length_singleton];omega,by simp⟩
  ·rw [List.map_append,exL_app,hex];have:exL (List.map (entI L) [-1])=Ro.ok:=funext fun s=>by rw [List.map_cons,hnop,List.map_nil,exL_nop];rfl
   rw [this];cases exL L s <;> rfl
  ·rcases List.mem_append.1 hv with hv | hv
   ·exact elow v hv
   ·rw [List.mem_singleton.1 hv,hnop];exact ⟨line_nop,by omega,by have:=List.length_pos_iff.2 hne;omega⟩
  ·rw [List.map_append,List.map_cons,List.map_nil,hnop];refine hzC_snoc (hzC_snoc ehz (fun a _=>hz_nop a)) (fun a ha=>?_);rw [List.length_append,List.length_singleton,Nat.add_sub_cancel,List.getElem?_append_right (Nat.le_refl _),Nat.sub_self] at ha;have:nopI=a:=by simpa using ha
   rw [← this];exact hzF_nop _
 | false=>
  rw [hlt,if_neg (by simp)] at hlay;refine ⟨_,hlay,hex,elow,fun b=>hzC_snoc ehz (fun a ha=>?_),by omega,hone⟩;rw [hlast a ha];unfold hzF;rw [hlt];rfl
def GoD (code:List In) (k:Nat) (s s':DS):Prop:=okD code k s∧itD code k s=s'
def StD (code:List In) (n:Nat) (s:DS) (t:Int) (out:List Int):Prop:=∃ k,k<n∧okD code k s∧(stepD code (itD code k s)).1=t∧t≠0∧(stepD code (itD code k s)).2.c.out=out
theorem okD_app {code:List In}:∀ (j k:Nat) (s:DS),okD code j s→okD code k (itD code j s)→okD code (j+k) s
 | 0,k,s,_,h=>by rw [Nat.zero_add];exact h
 | j+1,k,s,h,h2=>by
  rw [show j+1+k=(j+k)+1 by omega];exact ⟨h.1,h.2.1,okD_app j k _ h.2.2 h2⟩
theorem itD_app {code:List In}:∀ (j k:Nat) (s:DS),itD code (j+k) s=itD code k (itD code j s)
 | 0,k,s=>by rw [Nat.zero_add];rfl
 | j+1,k,s=>by
  rw [show j+1+k=(j+k)+1 by omega];exact itD_app j k _
theorem GoD.rf {code:List In} {s:DS}:GoD code 0 s s:=⟨trivial,rfl⟩
theorem GoD.tr {code:List In} {j k:Nat} {a b c:DS} (h:GoD code j a b) (g:GoD code k b c):GoD code (j+k) a c:=by
 obtain ⟨h1,rfl⟩:=h;obtain ⟨g1,rfl⟩:=g;exact ⟨okD_app j k a h1 g1,itD_app j k a⟩
theorem GoD.st {code:List In} {j n:Nat} {a b:DS} {t:Int} {out:List Int} (h:GoD code j a b) (g:StD code n b t out):StD code (j+n) a t out:=by
 obtain ⟨h1,rfl⟩:=h;obtain ⟨k,hk,g1,g2,g3,g4⟩:=g;exact ⟨j+k,by omega,okD_app j k a h1 g1,by rw [itD_app];exact g2,g3,by rw [itD_app];exact g4⟩
theorem StD.le {code:List In} {n m:Nat} {a:DS} {t:Int} {out:List Int} (h:StD code n a t out) (hm:n≤m):StD code m a t out:=by
 obtain ⟨k,hk,g⟩:=h;exact ⟨k,by omega,g⟩
theorem GoD.one {code:List In} {s:DS} (h:(stepD code s).1=0) (hz:Hz code s):GoD code 1 s (stepD code s).2:=⟨⟨h,hz,trivial⟩,rfl⟩
theorem StD.one {code:List In} {s:DS} {t:Int} (h:(stepD code s).1=t) (h0:t≠0):StD code 1 s t (stepD code s).2.c.out:=⟨0,by omega,trivial,h,h0,rfl⟩
def segD (code:List In) (A:Nat) (L:List In):Prop:=∀ (p:Nat) (i:In),L[p]? = some i→code[A+p]? = some i
theorem insD_at {code:List In} {A:Nat} {i:In} (h:code[A]? = some i):insD code (A:Int)=i∧¬ offD code (A:Int):=by
 have hl:=(List.getElem?_eq_some_iff.1 h).1;refine ⟨?_,?_⟩
 ·unfold insD;rw [Int.toNat_natCast,List.getD_eq_getElem?_getD,h];rfl
 ·unfold offD;omega
theorem exI_lk {i:In} (h:goesF i=false) (hg:goodI i=true) (lk:Int) (s:Co):exI lk i s=exI 0 i s:=by
 unfold goesF at h;rw [hg,Bool.and_true,decide_eq_false_iff_not] at h;unfold exI;simp only [if_neg (show ¬ i.op=18 by omega)]
theorem jmp_line {i:In} (h:goesF i=false) (hg:goodI i=true) (pc:Int) (s:Co):jmpI i pc s=none:=by
 unfold goesF at h;rw [hg,Bool.and_true,decide_eq_false_iff_not] at h;unfold jmpI;rw [if_neg (by omega),if_neg (by omega),if_neg (by omega)]
theorem step_line {code:List In} {A:Nat} {i:In} (h:code[A]? = some i) (hl:lineI i) (c:Co) (nx:Int):stepD code ⟨c,(A:Int),nx⟩=((exI 0 i c).1,⟨(exI 0 i c).2,nx,nx+1⟩):=by
 obtain ⟨h1,h2⟩:=insD_at h;unfold stepD;rw [if_neg h2,h1,if_neg (by rw [hl.1];simp)];dsimp only;rw [exI_lk hl.2 hl.1,jmp_line hl.2 hl.1];rfl
theorem run_line {code:List In}:∀ (L:List In) (A:Nat) (c:Co),segD code A L→(∀ i∈L,lineI i)→hzC (L++[insD code ((A+L.length:Nat):Int)]) →
  (∀ c',exL L c = .ok c'→GoD code L.length ⟨c,(A:Int),(A:Int)+1⟩ ⟨c',((A+L.length:Nat):Int),((A+L.length:Nat):Int)+1⟩) ∧
  (∀ t o,exL L c = .stop t o→StD code L.length ⟨c,(A:Int),(A:Int)+1⟩ t o)
 | [],A,c,_,_,_=>⟨fun c' h=>by cases h;exact GoD.rf,fun t o h=>by cases h⟩
 | i::L,A,c,hs,hl,hz=>by
  have hi:code[A]? = some i:=hs 0 i rfl;have hli:=hl i List.mem_cons_self;have hst:=step_line hi hli c ((A:Int)+1);have hs2:segD code (A+1) L:=fun p j hp=>by rw [show A+1+p=A+(p+1) by omega];exact hs (p+1) j (by simpa using hp)
  have hz2:hzC (L++[insD code ((A+1+L.length:Nat):Int)]):=fun p a b ha hb=>by
   rw [show A+1+L.length=A+(L.length+1) by omega] at ha hb;exact hz (p+1) a b (by simpa using ha) (by simpa using hb)
  have ih:=fun c=>run_line L (A+1) c hs2 (fun j hj=>hl j (List.mem_cons_of_mem _ hj)) hz2
  rw [show ((A+1:Nat):Int)=(A:Int)+1 by omega] at ih
  have hhz:Hz code ⟨c,(A:Int),(A:Int)+1⟩:=by
   unfold Hz;dsimp only;rw [(insD_at hi).1];cases L with
   | nil=>exact hz 0 i _ rfl rfl
   | cons j L=>
    have hj:code[A+1]? = some j:=hs 1 j rfl;rw [show (A:Int)+1=((A+1:Nat):Int) by omega,(insD_at hj).1];exact hz 0 i j rfl rfl
  have hex:exL (i::L) c=(exR i c).bd (exL L):=rfl;rw [hex];unfold exR;by_cases h0:(exI 0 i c).1=0
  ·rw [if_pos h0]
   have h1:GoD code 1 ⟨c,(A:Int),(A:Int)+1⟩ ⟨(exI 0 i c).2,(A:Int)+1,(A:Int)+1+1⟩:=by
    have:=GoD.one (s:=⟨c,(A:Int),(A:Int)+1⟩) (by rw [hst];exact h0) hhz;rw [hst] at this;exact this
   obtain ⟨g1,g2⟩:=ih (exI 0 i c).2;refine ⟨fun c' h=>?_,fun t o h=>?_⟩
   ·have:=h1.tr (g1 c' h);rw [List.length_cons,show L.length+1=1+L.length by omega,show A+(1+L.length)=A+1+L.length by omega];exact this
   ·have:=h1.st (g2 t o h);rw [List.length_cons,show L.length+1=1+L.length by omega];exact this
  ·rw [if_neg h0];refine ⟨fun c' h=>(by cases h),fun t o h=>?_⟩;have h:Ro.stop (exI 0 i c).1 c.out = .stop t o:=h;cases h;have:=StD.one (s:=⟨c,(A:Int),(A:Int)+1⟩) (t:=(exI 0 i c).1) (by rw [hst]) h0;rw [hst,ex_trap 0 i c h0] at this;exact this.le (by rw [List.length_cons];omega)
structure Aimed (i j:In):Prop where
 op:j.op=i.op
 a:j.a=i.a
 b:j.b=i.b
 c:j.c=i.c
 good:goodI j=true
theorem Aimed.goes {i j:In} (h:Aimed i j) (hg:goesF i=true):goesF j=true:=by
 unfold goesF at hg ⊢;rw [Bool.and_eq_true,decide_eq_true_eq] at hg;rw [h.op,h.good,decide_eq_true hg.1];rfl
theorem Aimed.fields {i j:In} (h:Aimed i j) (hg:goesF i=true):fieldsF j=fieldsF i:=by
 unfold goesF at hg;rw [Bool.and_eq_true,decide_eq_true_eq] at hg;unfold fieldsF;rw [h.op,h.a,h.b,h.c];simp only [if_neg (show ¬ i.op=20 by omega)]
theorem Aimed.hz {i j:In} (h:Aimed i j) (hg:goesF i=true) (x:In):hzF x j=hzF x i:=by
 have hi:goodI i=true:=by unfold goesF at hg;rw [Bool.and_eq_true] at hg;exact hg.2
 unfold hzF readsB;rw [h.fields hg,hi,h.good]
theorem goes_ex {j:In} (hg:goesF j=true) (lk:Int) (s:Co):exI lk j s=(0,if j.op=18 then wrX 31 lk s else s):=by
 unfold goesF at hg;rw [Bool.and_eq_true,decide_eq_true_eq] at hg;unfold exI;rw [if_neg (by omega),if_neg (by omega),if_neg (by omega)];by_cases h18:j.op=18
 ·rw [if_pos h18,if_pos h18]
 ·rw [if_neg h18,if_neg (by omega),if_neg h18,reck_none (by omega)];simp
theorem jmp_rg {j:In} (hg:goodI j=true) (pc:Int) (s s':Co) (h:∀ n,0≤n→n∈(fieldsF j).1→rgX s' n=rgX s n):jmpI j pc s'=jmpI j pc s:=by
 have hr:=rgI hg;unfold jmpI;by_cases h15:j.op=15∨j.op=16
 ·have hfi:(fieldsF j).1=[j.a,j.b]:=by unfold fieldsF;rw [if_neg (by omega),if_neg (by omega),if_neg (by omega),if_pos (by omega)]
  rw [if_pos h15,if_pos h15,h j.a hr.a.1 (by rw [hfi];simp),h j.b hr.b.1 (by rw [hfi];simp)]
 ·rw [if_neg h15,if_neg h15];by_cases h17:j.op=17∨j.op=18
  ·rw [if_pos h17,if_pos h17]
  ·rw [if_neg h17,if_neg h17];by_cases h19:j.op=19
   ·have hfi:(fieldsF j).1=[j.a]:=by unfold fieldsF;rw [if_neg (by omega),if_neg (by omega),if_neg (by omega),if_neg (by omega),if_pos (.inr h19)]
    rw [if_pos h19,if_pos h19,h j.a hr.a.1 (by rw [hfi];simp)]
   ·rw [if_neg h19,if_neg h19]
theorem exL_one (i:In) (s:Co):exL [i] s=exR i s:=by
 show (exR i s).bd (exL [])=_
 cases exR i s <;> rfl
theorem run_goes {code:List In} {L:List In} {last j:In} {Q:List Int} {x:Int} (hlay:LayG L last Q x) (hj:Aimed last j) (hg:goesF last=true) (A:Nat) (c:Co)
  (hs:segD code A (Q.map (entI (L++[last]))++[j,entI (L++[last]) x])) :
  (∀ c1,exL L c = .ok c1→GoD code (Q.length+2) ⟨c,(A:Int),(A:Int)+1⟩ ⟨(exI ((A+Q.length+2:Nat):Int) j c1).2,(jmpI j ((A+Q.length:Nat):Int) c1).getD ((A+Q.length+2:Nat):Int),(jmpI j ((A+Q.length:Nat):Int) c1).getD ((A+Q.length+2:Nat):Int)+1⟩) ∧
  (∀ t o,exL L c = .stop t o→StD code (Q.length+2) ⟨c,(A:Int),(A:Int)+1⟩ t o):=by
 have hgj:=hj.goes hg;have hQl:(Q.map (entI (L++[last]))).length=Q.length:=List.length_map _
 have hP:code[A+Q.length]? = some j:=by
  have:=hs Q.length j (by rw [List.getElem?_append_right (by omega),hQl,Nat.sub_self];rfl);exact this
 have hX:code[A+Q.length+1]? = some (entI (L++[last]) x):=by
  have:=hs (Q.length+1) (entI (L++[last]) x) (by rw [List.getElem?_append_right (by omega),hQl,show Q.length+1-Q.length=1 by omega];rfl);exact this
 have hsQ:segD code A (Q.map (entI (L++[last]))):=fun p i hp=>hs p i (by rw [List.getElem?_append_left (List.getElem?_eq_some_iff.1 hp).1];exact hp)
 obtain ⟨_,hex,hline,⟨hx1,hx2,hx3,_,_⟩,hhz,_⟩:=hlay
 have hlq:∀ i∈Q.map (entI (L++[last])),lineI i:=fun i hi=>by
  obtain ⟨v,hv,rfl⟩:=List.mem_map.1 hi;exact (hline v hv).1
 have hhzj:hzC (Q.map (entI (L++[last]))++[insD code ((A+(Q.map (entI (L++[last]))).length:Nat):Int)]):=by
  rw [hQl,(insD_at hP).1];intro p a b ha hb;have hp:=(List.getElem?_eq_some_iff.1 hb).1;simp only [List.length_append,List.length_singleton] at hp;rw [List.getElem?_append_left (by omega)] at ha;by_cases hl:p+1<(Q.map (entI (L++[last]))).length
  ·rw [List.getElem?_append_left hl] at hb;exact hhz p a b (by rw [List.getElem?_append_left (by omega)];exact ha) (by rw [List.getElem?_append_left hl];exact hb)
  ·rw [List.getElem?_append_right (by omega),show p+1-(Q.map (entI (L++[last]))).length=0 by omega] at hb;have:j=b:=by simpa using hb
   subst this;rw [hj.hz hg];exact hhz p a last (by rw [List.getElem?_append_left (by omega)];exact ha) (by rw [List.getElem?_append_right (by omega),show p+1-(Q.map (entI (L++[last]))).length=0 by omega];rfl)
 obtain ⟨r1,r2⟩:=run_line _ A c hsQ hlq hhzj;rw [hQl] at r1 r2;generalize entI (L++[last]) x=y at *
 have hexc:exL L c=(exL (Q.map (entI (L++[last]))) c).bd (exR y):=by
  rw [← hex c,exL_app]
  congr 1
  funext s
  exact exL_one y s
 rw [hexc];cases hq:exL (Q.map (entI (L++[last]))) c with
 | stop t o=>
  refine ⟨fun c1 h=>(by cases h),fun t' o' h=>?_⟩;have h:Ro.stop t o = .stop t' o':=h;cases h;exact (r2 t o hq).le (by omega)
 | ok cq=>
  show (∀ c1,exR y cq = .ok c1→_)∧(∀ t o,exR y cq = .stop t o→_)
  have g1:=r1 cq hq;obtain ⟨f1,f2,f3,f4⟩:=far_0 (hx3);rw [show ((A+Q.length:Nat):Int)+1=((A+Q.length+1:Nat):Int) by omega] at g1
  have hst:stepD code ⟨cq,((A+Q.length:Nat):Int),((A+Q.length+1:Nat):Int)⟩=(0,⟨(exI ((A+Q.length+2:Nat):Int) j cq).2,((A+Q.length+1:Nat):Int),(jmpI j ((A+Q.length:Nat):Int) cq).getD ((A+Q.length+2:Nat):Int)⟩):=by
   unfold stepD;dsimp only;rw [if_neg (insD_at hP).2,(insD_at hP).1,if_neg (by rw [hj.good];simp),show ((A+Q.length:Nat):Int)+2=((A+Q.length+2:Nat):Int) by omega,show ((A+Q.length+1:Nat):Int)+1=((A+Q.length+2:Nat):Int) by omega,goes_ex hgj]
  have hhz1:Hz code ⟨cq,((A+Q.length:Nat):Int),((A+Q.length+1:Nat):Int)⟩:=by
   unfold Hz;dsimp only;rw [(insD_at hP).1];exact goes_hz hgj _
  have g2:=GoD.one (by rw [hst]) hhz1;rw [hst] at g2;dsimp only at g2;generalize hT:(jmpI j ((A+Q.length:Nat):Int) cq).getD ((A+Q.length+2:Nat):Int)=T at *;have hsl:=step_line hX hx1 (exI ((A+Q.length+2:Nat):Int) j cq).2 T
  have hcom:exI 0 y (exI ((A+Q.length+2:Nat):Int) j cq).2=((exI 0 y cq).1,(exI ((A+Q.length+2:Nat):Int) j (exI 0 y cq).2).2):=by
   rw [goes_ex hgj,goes_ex hgj];dsimp only;by_cases h18:j.op=18
   ·rw [if_pos h18,if_pos h18]
    have hw:writesF last=31:=by
     have hi:goodI last=true:=by unfold goesF at hg;rw [Bool.and_eq_true] at hg;exact hg.2
     rw [writes_eq hi];unfold fieldsF;have:=hj.op;rw [if_neg (by omega),if_neg (by omega),if_neg (by omega),if_neg (by omega),if_neg (by omega),if_pos (by omega)]
    rw [hw] at f2 f3;refine ex_wr hx1.1 (by decide) f3 (.inr ?_) 0 cq;rcases f2 with f2 | f2
    ·rw [f2];decide
    ·exact fun h=>f2 h.symm
   ·rw [if_neg h18,if_neg h18]
  have hjmp:∀ c1,c1=(exI 0 y cq).2→(jmpI j ((A+Q.length:Nat):Int) c1).getD ((A+Q.length+2:Nat):Int)=T:=by
   intro c1 h1;subst h1;rw [← hT]
   congr 1
   refine jmp_rg hj.good _ _ _ (fun n hn hm=>?_);refine ex_rg hx1.1 0 cq hn ?_;have hi:goodI last=true:=by unfold goesF at hg;rw [Bool.and_eq_true] at hg;exact hg.2
   rw [hj.fields hg] at hm;exact reads_ne hi f1 hm
  have hhz2:Hz code ⟨(exI ((A+Q.length+2:Nat):Int) j cq).2,((A+Q.length+1:Nat):Int),T⟩:=by
   unfold Hz hzF;dsimp only;rw [(insD_at hX).1,hx2];rfl
  unfold exR;by_cases h0:(exI 0 y cq).1=0
  ·rw [if_pos h0];refine ⟨fun c1 h=>?_,fun t o h=>by cases h⟩;have h1:c1=(exI 0 y cq).2:=by cases h;rfl
   have g3:=GoD.one (by rw [hsl,hcom];exact h0) hhz2;rw [hsl,hcom] at g3;rw [hjmp c1 h1,h1];exact (g1.tr g2).tr g3
  ·rw [if_neg h0];refine ⟨fun c1 h=>(by cases h),fun t o h=>?_⟩;cases h;have g3:=StD.one (s:=⟨(exI ((A+Q.length+2:Nat):Int) j cq).2,((A+Q.length+1:Nat):Int),T⟩) (t:=(exI 0 y cq).1) (by rw [hsl,hcom]) h0;rw [hsl,hcom] at g3
   have ho:(exI ((A+Q.length+2:Nat):Int) j (exI 0 y cq).2).2.out=cq.out:=by
    rw [ex_trap 0 y cq h0,goes_ex hgj];dsimp only;split
    ·exact (wr_mem _ _ _).2.2
    ·rfl
   dsimp only at g3;rw [ho] at g3;have:=(g1.tr g2).st g3;exact this.le (by omega)
theorem run_next {code:List In} {L:List In} {O:List Int} (hlay:LayN L O) (A:Nat) (c:Co) (hs:segD code A (O.map (entI L))) :
  (∀ c1,exL L c = .ok c1→GoD code O.length ⟨c,(A:Int),(A:Int)+1⟩ ⟨c1,((A+O.length:Nat):Int),((A+O.length:Nat):Int)+1⟩) ∧
  (∀ t o,exL L c = .stop t o→StD code O.length ⟨c,(A:Int),(A:Int)+1⟩ t o):=by
 obtain ⟨_,hex,hline,hhz,_,_⟩:=hlay;have hl:(O.map (entI L)).length=O.length:=List.length_map _
 obtain ⟨r1,r2⟩:=run_line _ A c hs (fun i hi=>by
  obtain ⟨v,hv,rfl⟩:=List.mem_map.1 hi;exact (hline v hv).1) (hhz _)
 rw [hl,hex] at r1;rw [hl,hex] at r2;exact ⟨r1,r2⟩
end Go.Proofs.YtkolmklfgbimoaaGreatDoor

/- Texts of the proof, in their order: Dm9, Dma, Dmb, Dmf, Dmg, Dmh. -/
import Derived.Test.YtkolmklfgbimoaaGreatDoorM10
import Derived.Test.YtkolmklfgbimoaaGreatDoorM4
set_option linter.unusedVariables false
set_option linter.unusedSimpArgs false
set_option maxHeartbeats 16000000
set_option maxRecDepth 100000
namespace Go.Proofs.YtkolmklfgbimoaaGreatDoor
open Go
def hdAt (hs:List Nat) (n i:Nat):Nat:=if i<hs.length then hs.getD i 0 else n
theorem cut_at:∀ (hs:List Nat) (n i:Nat),i<hs.length→(cutF n hs)[i]? = some (hdAt hs n i,hdAt hs n (i+1))
 | [],n,i,h=>by simp at h
 | [a],n,i,h=>by
  obtain rfl:i=0:=by simp at h;omega
  rfl
 | a::b::l,n,0,h=>by
  unfold hdAt;rw [if_pos (by simp),if_pos (by simp)];rfl
 | a::b::l,n,i+1,h=>by
  have ih:=cut_at (b::l) n i (by simpa using h);unfold hdAt at ih ⊢;rw [cutF,List.getElem?_cons_succ,ih];simp only [List.length_cons,Nat.add_lt_add_iff_right,List.getD_cons_succ]
theorem cutF_len:∀ (hs:List Nat) (n:Nat),(cutF n hs).length=hs.length
 | [],n=>rfl
 | [a],n=>rfl
 | a::b::l,n=>by rw [cutF,List.length_cons,cutF_len (b::l) n];rfl
theorem newF_put:∀ (m:List (Int×Int)) (k v j:Int),newF (putM m k v) j=if j=k then v else newF m j
 | [],k,v,j=>rfl
 | (a,b)::m,k,v,j=>by
  unfold putM;by_cases h:k=a
  ·subst h;rw [if_pos rfl];unfold newF;by_cases hj:j=k
   ·rw [if_pos hj,if_pos hj]
   ·rw [if_neg hj,if_neg hj,if_neg hj]
  ·rw [if_neg h];unfold newF;rw [newF_put m k v j];by_cases hj:j=a
   ·subst hj;rw [if_pos rfl,if_neg (fun hk=>h hk.symm),if_pos rfl]
   ·rw [if_neg hj];by_cases hk:j=k
    ·rw [if_pos hk,if_pos hk]
    ·rw [if_neg hk,if_neg hk,if_neg hj]
theorem hs_sorted (code:List In):(headsF code).Pairwise (· < ·)∧∀ v∈headsF code,v<code.length:=by
 unfold headsF;split
 ·exact ⟨List.pairwise_lt_range.filter _,fun v hv=>List.mem_range.1 (List.mem_filter.1 hv).1⟩
 ·exact ⟨List.Pairwise.nil,fun v hv=>by cases hv⟩
theorem hd_lt {hs:List Nat} {n:Nat} (h1:hs.Pairwise (· < ·)) (h2:∀ v∈hs,v<n) {i j:Nat} (hij:i<j) (hi:i<hs.length):hdAt hs n i<hdAt hs n j:=by
 unfold hdAt;rw [if_pos hi,List.getD_eq_getElem?_getD,List.getElem?_eq_getElem hi];split
 ·rename_i hj;rw [List.getD_eq_getElem?_getD,List.getElem?_eq_getElem hj];exact List.pairwise_iff_getElem.1 h1 i j hi hj hij
 ·exact h2 _ (List.getElem_mem hi)
def layK (code:List In) (k:Nat):Laid:=((blocksL code).take k).foldl (fun s b=>layB code b s) ⟨[],[],[],[]⟩
def blkL (code:List In) (a b:Nat):List In:=(code.take b).drop a
def bA (code:List In) (i:Nat):Nat:=hdAt (headsF code) code.length i
theorem layK_succ (code:List In) {k:Nat} (hk:k<(headsF code).length):layK code (k+1)=layB code (bA code k,bA code (k+1)) (layK code k):=by
 unfold layK;rw [List.take_add_one,show (blocksL code)[k]? = some (bA code k,bA code (k+1)) from cut_at _ _ k hk,List.foldl_append];rfl
theorem layK_code (code:List In) {k:Nat} (hk:k<(headsF code).length):(layK code (k+1)).code=(layK code k).code++pickF (blkL code (bA code k) (bA code (k+1))) (layF (blkL code (bA code k) (bA code (k+1)))):=by
 rw [layK_succ code hk];rfl
theorem layK_olds (code:List In) {k:Nat} (hk:k<(headsF code).length):(layK code (k+1)).olds=(layK code k).olds++(layF (blkL code (bA code k) (bA code (k+1)))).map fun n=>if 0≤n then (bA code k:Int)+n else -1:=by
 rw [layK_succ code hk];rfl
theorem layK_anew (code:List In) {k:Nat} (hk:k<(headsF code).length):(layK code (k+1)).anew=putM (layK code k).anew (bA code k:Int) ((layK code k).code.length:Int):=by
 rw [layK_succ code hk];rfl
theorem pick_len (l:List In) (o:List Int):(pickF l o).length=o.length:=by unfold pickF;simp
theorem layK_same (code:List In):∀ k,k≤(headsF code).length→(layK code k).olds.length=(layK code k).code.length
 | 0,_=>rfl
 | k+1,hk=>by
  rw [layK_code code (by omega),layK_olds code (by omega),List.length_append,List.length_append,layK_same code k (by omega),pick_len,List.length_map]
theorem layK_pre (code:List In) (k:Nat):∀ j,k+j≤(headsF code).length→(∃ r,(layK code (k+j)).code=(layK code k).code++r)∧(∃ r,(layK code (k+j)).olds=(layK code k).olds++r)
 | 0,_=>⟨⟨[],by simp⟩,⟨[],by simp⟩⟩
 | j+1,h=>by
  obtain ⟨⟨r,hr⟩,⟨q,hq⟩⟩:=layK_pre code k j (by omega);rw [show k+(j+1)=(k+j)+1 by omega,layK_code code (by omega),layK_olds code (by omega),hr,hq];exact ⟨⟨_,List.append_assoc _ _ _⟩,⟨_,List.append_assoc _ _ _⟩⟩
theorem layK_new (code:List In):∀ k,k≤(headsF code).length→∀ i,i<k→newF (layK code k).anew (bA code i:Int)=((layK code i).code.length:Int)
 | 0,_,i,hi=>by omega
 | k+1,hk,i,hi=>by
  rw [layK_anew code (by omega),newF_put];by_cases h:i=k
  ·subst h;rw [if_pos rfl]
  ·obtain ⟨h1,h2⟩:=hs_sorted code;have:=hd_lt h1 h2 (n:=code.length) (show i<k by omega) (by omega);rw [if_neg (by unfold bA;omega),layK_new code k (by omega) i (by omega)]
theorem layAll_eq (code:List In):layAll code=headG code.length (layK code (headsF code).length):=by
 unfold layAll layK;rw [show (headsF code).length=(blocksL code).length from (cutF_len _ _).symm,List.take_length]
theorem all_new (code:List In):∀ i,i≤(headsF code).length→newF (layAll code).anew (bA code i:Int)=((layK code i).code.length:Int):=by
 intro i hi;rw [layAll_eq];show newF (putM _ _ _) _=_
 rw [newF_put];by_cases h:i=(headsF code).length
 ·subst h;rw [if_pos];unfold bA hdAt;rw [if_neg (by omega)]
 ·obtain ⟨h1,h2⟩:=hs_sorted code;have:=hd_lt h1 h2 (n:=code.length) (show i<(headsF code).length by omega) (by omega);have h3:hdAt (headsF code) code.length (headsF code).length=code.length:=by unfold hdAt;rw [if_neg (by omega)]
  rw [if_neg (by unfold bA;omega),layK_new code _ (Nat.le_refl _) i (by omega)]
theorem aimG_at {code:List In} {m:List (Int×Int)}:∀ (os:List Int) (l:List In) (k:Nat) (c:List In),aimG code m k os l=some c→(os.length=l.length→c.length=l.length)∧∀ (q:Nat) (o:Int) (j:In),os[q]? = some o→l[q]? = some j→∃ i,aimF code m (k+q) o j=some i∧c[q]? = some i
 | [],l,k,c,h=>by
  have:l=c:=by simpa [aimG] using h
  subst this;exact ⟨fun _=>rfl,fun q o j ho=>by simp at ho⟩
 | o::os,[],k,c,h=>by
  have:[]=c:=by simpa [aimG] using h
  subst this;exact ⟨fun _=>rfl,fun q o j _ hj=>by simp at hj⟩
 | o::os,j::l,k,c,h=>by
  rw [aimG] at h;cases ha:aimF code m k o j with
  | none=>rw [ha] at h;cases h
  | some i=>
   rw [ha] at h;dsimp only at h;rw [Option.map_eq_some_iff] at h;obtain ⟨r,hr,rfl⟩:=h;obtain ⟨g1,g2⟩:=aimG_at os l (k+1) r hr;refine ⟨fun h=>by rw [List.length_cons,List.length_cons,g1 (by simpa using h)],fun q o2 j2 ho hj=>?_⟩;cases q with
   | zero=>
    have e1:o=o2:=by simpa using ho
    have e2:j=j2:=by simpa using hj
    subst e1;subst e2;exact ⟨i,by rw [Nat.add_zero];exact ha,rfl⟩
   | succ q=>
    obtain ⟨i2,h1,h2⟩:=g2 q o2 j2 (by simpa using ho) (by simpa using hj);exact ⟨i2,by rw [show k+(q+1)=k+1+q by omega];exact h1,by simpa using h2⟩
structure Reo (code new:List In) (m:List (Int×Int)):Prop where
 fit:fitF code=true
 len:new.length≤4096
 blk:∀ k,k<(headsF code).length→∃ A:Nat,newF m (bA code k:Int)=A∧newF m (bA code (k+1):Int)=((A+(layF (blkL code (bA code k) (bA code (k+1)))).length:Nat):Int) ∧
  ∀ (p:Nat) (v:Int),(layF (blkL code (bA code k) (bA code (k+1))))[p]? = some v→∃ i,new[A+p]? = some i∧aimF code m (A+p) (if 0≤v then (bA code k:Int)+v else -1) (entI (blkL code (bA code k) (bA code (k+1))) v)=some i
theorem reorg_reo {code new:List In} {pl:List Int} (h:reorgF code=(new,pl,0)):Reo code new (layAll code).anew:=by
 unfold reorgF at h;split at h
 ·rename_i hf;dsimp only at h;split at h
  ·cases h
  ·rename_i hl;cases ha:aimG code (layAll code).anew 0 (layAll code).olds (layAll code).code with
   | none=>rw [ha] at h;cases h
   | some c=>
    rw [ha] at h;have:c=new:=by cases h;rfl
    subst this;obtain ⟨g1,g2⟩:=aimG_at _ _ 0 c ha;have hc:(layAll code).code=(layK code (headsF code).length).code:=by rw [layAll_eq];rfl
    have ho:(layAll code).olds=(layK code (headsF code).length).olds:=by rw [layAll_eq];rfl
    have hlen:=g1 (by rw [hc,ho];exact layK_same code _ (Nat.le_refl _));refine ⟨hf,by omega,fun k hk=>⟨(layK code k).code.length,all_new code k (by omega),?_,fun p v hv=>?_⟩⟩
    ·rw [all_new code (k+1) (by omega),layK_code code hk,List.length_append,pick_len]
    ·obtain ⟨⟨r,hr⟩,⟨q,hq⟩⟩:=layK_pre code (k+1) ((headsF code).length-(k+1)) (by omega);rw [show k+1+((headsF code).length-(k+1))=(headsF code).length by omega] at hr hq;have hp:=(List.getElem?_eq_some_iff.1 hv).1;have hs:=layK_same code k (by omega)
     have e1:(layAll code).code[(layK code k).code.length+p]? = some (entI (blkL code (bA code k) (bA code (k+1))) v):=by
      rw [hc,hr,layK_code code hk,List.append_assoc,List.getElem?_append_right (by omega),Nat.add_sub_cancel_left,List.getElem?_append_left (by rw [pick_len];exact hp),pickF_map,List.getElem?_map,hv];rfl
     have e2:(layAll code).olds[(layK code k).code.length+p]? = some (if 0≤v then (bA code k:Int)+v else -1):=by
      rw [ho,hq,layK_olds code hk,List.append_assoc,List.getElem?_append_right (by omega),hs,Nat.add_sub_cancel_left,List.getElem?_append_left (by rw [List.length_map];exact hp),List.getElem?_map,hv];rfl
     obtain ⟨i,h1,h2⟩:=g2 _ _ _ e2 e1;rw [Nat.zero_add] at h1;exact ⟨i,h2,h1⟩
 ·cases h
theorem tell_mem:∀ (l:List In) (k:Nat) (v:Int),(∃ p i,l[p]? = some i∧v∈tellF (k+p) i)→v∈tellG k l
 | [],k,v,⟨p,i,h,_⟩=>by simp at h
 | j::l,k,v,⟨p,i,h,hv⟩=>by
  rw [tellG,List.mem_append];cases p with
  | zero=>
   have:j=i:=by simpa using h
   subst this;exact .inl hv
  | succ p=>exact .inr (tell_mem l (k+1) v ⟨p,i,by simpa using h,by rw [show k+1+p=k+(p+1) by omega];exact hv⟩)
theorem head_mem {code:List In} (hf:fitF code=true) {k:Nat} (hk:k<code.length) (h:k=0∨∃ p i,code[p]? = some i∧(k:Int)∈tellF p i):k∈headsF code:=by
 unfold headsF;have hne:code≠[]:=by rintro rfl;simp at hk
 rw [if_pos ⟨hf,hne⟩,List.mem_filter,List.mem_range];refine ⟨hk,?_⟩;rw [List.contains_iff_mem,List.mem_cons];rcases h with rfl | ⟨p,i,h1,h2⟩
 ·left;rfl
 ·right;exact tell_mem code 0 _ ⟨p,i,h1,by rw [Nat.zero_add];exact h2⟩
theorem head_next {code:List In} (hf:fitF code=true) {p:Nat} {i:In} (hi:code[p]? = some i) (hg:goesF i=true) (hp:p+1<code.length):p+1∈headsF code:=
 head_mem hf hp (.inr ⟨p,i,hi,by unfold tellF;rw [if_pos hg];simp⟩)
theorem head_target {code:List In} (hf:fitF code=true) {p:Nat} {i:In} (hi:code[p]? = some i) {t:Nat} (ht:targetF i (p:Int)=some (t:Int)) (hp:t<code.length):t∈headsF code:=
 head_mem hf hp (.inr ⟨p,i,hi,by unfold tellF;rw [ht];simp⟩)
theorem fit_good:∀ (l:List In) (n k p:Nat) (i:In),fitG n k l=true→l[p]? = some i→fitI n ((k+p:Nat):Int) i=true
 | [],n,k,p,i,_,h=>by simp at h
 | j::l,n,k,p,i,hf,h=>by
  rw [fitG,Bool.and_eq_true] at hf;cases p with
  | zero=>
   have:j=i:=by simpa using h
   subst this;exact hf.1
  | succ p=>
   have:=fit_good l n (k+1) p i hf.2 (by simpa using h);rw [show k+1+p=k+(p+1) by omega] at this;exact this
theorem fit_at {code:List In} (hf:fitF code=true) {p:Nat} {i:In} (hi:code[p]? = some i):goodI i=true∧∀ t,targetF i (p:Int)=some t→0≤t∧t≤(code.length:Int):=by
 unfold fitF at hf;rw [Bool.and_eq_true] at hf;have:=fit_good code _ 0 p i hf.2 hi;rw [Nat.zero_add] at this;unfold fitI at this;rw [Bool.and_eq_true] at this;refine ⟨this.1,fun t ht=>?_⟩;have h2:=this.2;rw [ht] at h2
 simpa using h2
theorem head_idx {code:List In} {h:Nat} (hh:h∈headsF code):∃ k,k<(headsF code).length∧bA code k=h:=by
 obtain ⟨k,hk,rfl⟩:=List.mem_iff_getElem.1 hh;refine ⟨k,hk,?_⟩;unfold bA hdAt;rw [if_pos hk,List.getD_eq_getElem?_getD,List.getElem?_eq_getElem hk];rfl
theorem bA_lt (code:List In) {k:Nat} (hk:k<(headsF code).length):bA code k<bA code (k+1)∧bA code (k+1)≤code.length:=by
 obtain ⟨h1,h2⟩:=hs_sorted code;refine ⟨hd_lt h1 h2 (by omega) hk,?_⟩;unfold bA hdAt;split
 ·rename_i h3;rw [List.getD_eq_getElem?_getD,List.getElem?_eq_getElem h3];exact Nat.le_of_lt (h2 _ (List.getElem_mem h3))
 ·exact Nat.le_refl _
theorem bA_none (code:List In) {k:Nat} (hk:k<(headsF code).length) {h:Nat} (hh:h∈headsF code):¬ (bA code k<h∧h<bA code (k+1)):=by
 rintro ⟨h3,h4⟩;obtain ⟨h1,h2⟩:=hs_sorted code;obtain ⟨j,hj,rfl⟩:=head_idx hh;by_cases hjk:j≤k
 ·by_cases he:j=k
  ·subst he;omega
  ·have:=hd_lt h1 h2 (n:=code.length) (show j<k by omega) hj;unfold bA at h3;omega
 ·by_cases he:j=k+1
  ·subst he;omega
  ·have:=hd_lt h1 h2 (n:=code.length) (show k+1<j by omega) (by omega);unfold bA at h4;omega
theorem bA_goes {code:List In} (hf:fitF code=true) {k:Nat} (hk:k<(headsF code).length) {p:Nat} {i:In} (hi:code[p]? = some i) (h1:bA code k≤p) (h2:p+1<bA code (k+1)):goesF i=false:=by
 cases hg:goesF i with
 | false=>rfl
 | true=>
  have:=(bA_lt code hk).2;exact absurd ⟨by omega,h2⟩ (bA_none code hk (head_next hf hi hg (by omega)))
theorem blk_get {code:List In} {a b p:Nat} (h:a+p<b):(blkL code a b)[p]? = code[a+p]? := by
 unfold blkL;rw [List.getElem?_drop,List.getElem?_take,if_pos h]
theorem blk_len {code:List In} {a b:Nat} (h:b≤code.length):(blkL code a b).length=b-a:=by
 unfold blkL;rw [List.length_drop,List.length_take];omega
structure SimR (code:List In) (f:Int→Int) (R:Co→Nat→Co→Prop):Prop where
 line:∀ a p c i,R a p c→code[p]? = some i→goodI i=true→goesF i=false→(exI 0 i a).1=(exI 0 i c).1∧((exI 0 i a).1=0→R (exI 0 i a).2 (p+1) (exI 0 i c).2)
 goes:∀ a p c i,R a p c→code[p]? = some i→goodI i=true→goesF i=true→∃ t:Nat,(jmpI i (p:Int) a).getD ((p:Int)+1)=(t:Int)∧t∈headsF code∧(if i.op=19 then rgX c i.a=f (t:Int) else jmpI i (p:Int) c=jmpI i (p:Int) a)∧R (exI ((p:Int)+1) i a).2 t (exI (f ((p:Int)+1)) i c).2
 out:∀ a p c,R a p c→a.out=c.out
 lt:∀ a p c,R a p c→p<code.length
 ok:∀ a p c,R a p c→CoOk a
theorem runQ_s (code:List In) (f:Nat) (m:MS):runQ code (f+1) m=if (stepQ code m).1=0 then ((runQ code f (stepQ code m).2).1,(runQ code f (stepQ code m).2).2.1+1,(runQ code f (stepQ code m).2).2.2) else ((stepQ code m).1,1,(stepQ code m).2):=rfl
theorem seg_run {code:List In} {f:Int→Int} {R:Co→Nat→Co→Prop} (hR:SimR code f R) (hfit:fitF code=true) (hlen:code.length≤4096) {t:Int} {q:MS} (h0:t≠0):∀ (L:List In) (p:Nat) (a c:Co) (g:Nat) (n:Int),(∀ k i,L[k]? = some i→code[p+k]? = some i∧goesF i=false)→R a p c→runQ code g (mkM a (p:Int))=(t,n,q) →
  (exL L c = .stop t q.out∧1≤n)∨(∃ c1 a1 g1,exL L c = .ok c1∧R a1 (p+L.length) c1∧g=g1+L.length∧runQ code g1 (mkM a1 ((p+L.length:Nat):Int))=(t,n-L.length,q))
 | [],p,a,c,g,n,_,hr,hq=>.inr ⟨c,a,g,rfl,hr,rfl,by simpa using hq⟩
 | i::L,p,a,c,g,n,hL,hr,hq=>by
  obtain ⟨hi,hgo⟩:=hL 0 i rfl;rw [Nat.add_zero] at hi;obtain ⟨hg,_⟩:=fit_at hfit hi;have hlt:=hR.lt _ _ _ hr;have hst:=step_ex (code:=code) (c:=a) (pc:=(p:Int)) (i:=i) (by omega) (by omega) (by rw [Int.toNat_natCast];exact hi) hg (hR.ok _ _ _ hr);rw [exI_lk hgo hg,jmp_line hgo hg] at hst;obtain ⟨h1,h2⟩:=hR.line a p c i hr hi hg hgo
  obtain ⟨g',rfl⟩:∃ g',g=g'+1:=by
   cases g with
   | zero=>
    have:(0:Int)=t:=congrArg Prod.fst hq;exact absurd this.symm h0
   | succ g=>exact ⟨g,rfl⟩
  rw [runQ_s,hst] at hq;dsimp only at hq;have hex:exL (i::L) c=(exR i c).bd (exL L):=rfl;rw [hex];unfold exR;by_cases hz:(exI 0 i a).1=0
  ·rw [if_pos hz,if_pos hz] at hq;rw [if_pos (h1 ▸ hz)]
   obtain ⟨q1,q2⟩:(runQ code g' (mkM (exI 0 i a).2 ((p+1:Nat):Int))).1=t∧((runQ code g' (mkM (exI 0 i a).2 ((p+1:Nat):Int))).2.1+1=n∧(runQ code g' (mkM (exI 0 i a).2 ((p+1:Nat):Int))).2.2=q):=by
    have h3:=hq;simp only [Option.getD_none,Prod.mk.injEq] at h3;exact h3
   have hrec:=seg_run hR hfit hlen h0 L (p+1) _ _ g' (n-1) (fun k j hk=>by
    have:=hL (k+1) j (by simpa using hk);rw [show p+1+k=p+(k+1) by omega]
    exact this) (h2 hz) (by
     refine Prod.ext q1 (Prod.ext ?_ q2.2);show _=n-1
     have:=q2.1;omega)
   rcases hrec with ⟨r1,r2⟩ | ⟨c1,a1,g1,r1,r2,r3,r4⟩
   ·exact .inl ⟨r1,by omega⟩
   ·refine .inr ⟨c1,a1,g1,r1,?_,?_,?_⟩
    ·rw [List.length_cons,show p+(L.length+1)=p+1+L.length by omega];exact r2
    ·rw [List.length_cons];omega
    ·rw [List.length_cons,show p+(L.length+1)=p+1+L.length by omega,r4];simp only [Prod.mk.injEq,true_and,and_true];omega
  ·rw [if_neg hz,if_neg hz] at hq;rw [if_neg (h1 ▸ hz)];have h3:=hq;simp only [Prod.mk.injEq] at h3;obtain ⟨q1,q2,q3⟩:=h3;left;refine ⟨?_,by omega⟩;rw [ex_trap 0 i a hz] at q3;show Ro.stop _ _=_
   rw [← h1,q1,← q3,← hR.out _ _ _ hr];rfl
theorem reo_aim {code:List In} {m:List (Int×Int)} {P o:Nat} {x j:In} (hx:code[o]? = some x) (hg:goesF x=true) (h:aimF code m P (o:Int) x=some j) :
  Aimed x j∧(targetF x (o:Int)=none→j=x)∧(∀ t,targetF x (o:Int)=some t→j.imm=if x.op=15∨x.op=16 then newF m t-((P:Int)+1) else newF m t):=by
 have hgood:goodI x=true:=by unfold goesF at hg;rw [Bool.and_eq_true] at hg;exact hg.2
 unfold aimF at h;rw [if_neg (by omega),Int.toNat_natCast,List.getD_eq_getElem?_getD,hx,Option.getD_some] at h;cases ht:targetF x (o:Int) with
 | none=>
  rw [ht] at h;have:x=j:=by simpa using h
  subst this;exact ⟨⟨rfl,rfl,rfl,rfl,hgood⟩,fun _=>rfl,fun t h=>by cases h⟩
 | some t=>
  rw [ht] at h;dsimp only at h;obtain ⟨K,hK⟩:∃ K:In,K={ x with imm:=if x.op=15∨x.op=16 then newF m t-((P:Int)+1) else newF m t }:=⟨_,rfl⟩
  rw [← hK] at h;by_cases hk:goodI K=true
  ·rw [if_pos hk] at h;have h2:K=j:=Option.some.inj h;refine ⟨?_,(fun h=>by cases h),fun t2 h3=>?_⟩
   ·rw [← h2];exact ⟨by rw [hK],by rw [hK],by rw [hK],by rw [hK],hk⟩
   ·cases h3;rw [← h2,hK]
  ·rw [if_neg hk] at h;cases h
theorem line_aim {code:List In} {m:List (Int×Int)} {P o:Nat} {x j:In} (hx:code[o]? = some x) (hg:goesF x=false) (hgood:goodI x=true) (h:aimF code m P (o:Int) x=some j):j=x:=by
 unfold aimF at h;rw [if_neg (by omega),Int.toNat_natCast,List.getD_eq_getElem?_getD,hx,Option.getD_some] at h
 have ht:targetF x (o:Int)=none:=by
  unfold goesF at hg;rw [hgood,Bool.and_true,decide_eq_false_iff_not] at hg;unfold targetF;rw [if_pos hgood,if_neg (by omega),if_neg (by omega)]
 rw [ht] at h
 simpa using h.symm
theorem goes_op {x:In} (h:goesF x=true):15≤x.op∧x.op≤19∧goodI x=true:=by
 unfold goesF at h;rw [Bool.and_eq_true,decide_eq_true_eq] at h;exact ⟨h.1.1,h.1.2,h.2⟩
theorem jmp_new {code:List In} {m:List (Int×Int)} {P o:Nat} {x j:In} (hx:code[o]? = some x) (hg:goesF x=true) (h:aimF code m P (o:Int) x=some j) {a c:Co} {t:Nat} (ht:(jmpI x (o:Int) a).getD ((o:Int)+1)=(t:Int)) (hT:if x.op=19 then rgX c x.a=newF m (t:Int) else jmpI x (o:Int) c=jmpI x (o:Int) a) (hP:newF m ((o:Int)+1)=((P+2:Nat):Int)) :
  (jmpI j (P:Int) c).getD ((P+2:Nat):Int)=newF m (t:Int):=by
 obtain ⟨⟨e1,e2,e3,e4,hj⟩,hn,hs⟩:=reo_aim hx hg h;obtain ⟨h15,h19,hgood⟩:=goes_op hg;unfold targetF at hn hs;rw [if_pos hgood] at hn hs;by_cases hb:x.op=15∨x.op=16
 ·rw [if_pos hb] at hs;rw [if_neg (by omega)] at hT;have him:=hs _ rfl;rw [if_pos hb] at him;rw [← hT] at ht;unfold jmpI at ht ⊢;rw [if_pos hb] at ht;rw [e1,e2,e3,if_pos hb,him];by_cases hc:decide (rgX c x.a=rgX c x.b)=decide (x.op=15)
  ·rw [if_pos hc] at ht ⊢;rw [Option.getD_some] at ht ⊢;rw [← ht];omega
  ·rw [if_neg hc] at ht ⊢;rw [Option.getD_none] at ht ⊢;rw [← ht,hP]
 ·rw [if_neg hb] at hs hn;by_cases hb2:x.op=17∨x.op=18
  ·rw [if_pos hb2] at hs;have him:=hs _ rfl;rw [if_neg hb] at him;unfold jmpI at ht ⊢;rw [if_neg hb,if_pos hb2,Option.getD_some] at ht;rw [e1,if_neg hb,if_pos hb2,Option.getD_some,him,ht]
  ·rw [if_neg hb2] at hn;have hjx:=hn rfl;have h19':x.op=19:=by omega
   rw [if_pos h19'] at hT;rw [hjx];unfold jmpI;rw [if_neg hb,if_neg hb2,if_pos h19',Option.getD_some,hT]
theorem goes_eq {x j:In} (h:j.op=x.op) (hx:goesF x=true) (hj:goesF j=true) (lk:Int) (c:Co):exI lk j c=exI lk x c:=by rw [goes_ex hj,goes_ex hx,h]
theorem sim_run {code new:List In} {m:List (Int×Int)} {R:Co→Nat→Co→Prop} (hre:Reo code new m) (hR:SimR code (newF m) R) {t:Int} {q:MS} (h0:t≠0):∀ (N g:Nat),g≤N→∀ (a:Co) (h:Nat) (c:Co) (n:Int),h∈headsF code→R a h c→runQ code g (mkM a (h:Int))=(t,n,q)→1≤n∧StD new (3*n.toNat+2*code.length+1) ⟨c,newF m (h:Int),newF m (h:Int)+1⟩ t q.out:=by
 have hlen:code.length≤4096:=by
  have:=hre.fit;unfold fitF at this;rw [Bool.and_eq_true,decide_eq_true_eq] at this;exact this.1
 intro N
 induction N with
 | zero=>
  intro g hg a h c n _ _ hq;obtain rfl:g=0:=by omega
  have:(0:Int)=t:=congrArg Prod.fst hq;exact absurd this.symm h0
 | succ N ih=>
  intro g hg a h c n hh hr hq;obtain ⟨k,hk,rfl⟩:=head_idx hh;obtain ⟨hlt,hle⟩:=bA_lt code hk;obtain ⟨A,hA1,hA2,hseg⟩:=hre.blk k hk;generalize hha:bA code k=h at *;generalize htq:bA code (k+1)=tq at *;have hbl:=blk_len (code:=code) (a:=h) (b:=tq) hle;have hget:∀ p,h+p<tq→(blkL code h tq)[p]? = code[h+p]? := fun p hp=>blk_get hp
  obtain ⟨x,hx⟩:∃ x,code[tq-1]? = some x:=⟨_,List.getElem?_eq_getElem (by omega)⟩
  have hline:∀ p i,code[p]? = some i→h≤p→p+1<tq→goesF i=false:=fun p i hi h1 h2=>bA_goes hre.fit hk hi (by rw [hha];exact h1) (by rw [htq];exact h2)
  have hL0:∀ (b:Nat) (hb:b≤tq) (k:Nat) (i:In),(blkL code h b)[k]? = some i→h+k<b∧code[h+k]? = some i:=by
   intro b hb k i hi;have hkl:=(List.getElem?_eq_some_iff.1 hi).1;rw [blk_len (by omega)] at hkl;rw [blk_get (by omega)] at hi;exact ⟨by omega,hi⟩
  by_cases hgx:goesF x=true
  ·
   have hLl:(blkL code h (tq-1)).length=tq-1-h:=blk_len (by omega)
   have hsplit:blkL code h tq=blkL code h (tq-1)++[x]:=by
    refine List.ext_getElem? (fun p=>?_);by_cases hp:h+p<tq-1
    ·rw [hget p (by omega),List.getElem?_append_left (by omega),blk_get hp]
    ·by_cases hp2:h+p=tq-1
     ·rw [hget p (by omega),List.getElem?_append_right (by omega),hLl,show p-(tq-1-h)=0 by omega,hp2,hx];rfl
     ·rw [List.getElem?_eq_none (by omega),List.getElem?_eq_none (by simp;omega)]
   have hLline:∀ i∈blkL code h (tq-1),lineI i:=fun i hi=>by
    obtain ⟨p,hp⟩:=List.mem_iff_getElem?.1 hi;obtain ⟨h1,h2⟩:=hL0 (tq-1) (by omega) p i hp;exact ⟨(fit_at hre.fit h2).1,hline _ i h2 (by omega) (by omega)⟩
   obtain ⟨Q,y,hlay⟩:=lay_goes hLline hgx;have hlf:=hlay.eq;rw [← hsplit] at hlf;have hQl:=hlay.len;obtain ⟨j,hj1,hj2⟩:=hseg Q.length ((blkL code h (tq-1)).length:Int) (by rw [hlf,List.getElem?_append_right (Nat.le_refl _),Nat.sub_self];rfl)
   have hentx:entI (blkL code h tq) ((blkL code h (tq-1)).length:Int)=x:=by
    unfold entI;rw [if_pos (by rw [hLl,hbl];omega),Int.toNat_natCast,hsplit,List.getD_eq_getElem?_getD,List.getElem?_append_right (Nat.le_refl _),Nat.sub_self];rfl
   rw [hentx,if_pos (by omega),hLl,show (h:Int)+((tq-1-h:Nat):Int)=((tq-1:Nat):Int) by omega] at hj2;obtain ⟨haim,_,_⟩:=reo_aim hx hgx hj2
   have hA3:newF m (tq:Int)=((A+Q.length+2:Nat):Int):=by
    rw [hA2,hlf,List.length_append];rfl
   have hsg:segD new A (Q.map (entI (blkL code h (tq-1)++[x]))++[j,entI (blkL code h (tq-1)++[x]) y]):=by
    rw [← hsplit]
    have hone:∀ (p:Nat) (v:Int),(layF (blkL code h tq))[p]? = some v→lineI (entI (blkL code h tq) v) → -1≤v→v<((blkL code h (tq-1)).length:Int)→new[A+p]? = some (entI (blkL code h tq) v):=by
     intro p v hv hl h1 h2;obtain ⟨i,hi1,hi2⟩:=hseg p v hv;rw [hi1];by_cases hv0:0≤v
     ·obtain ⟨u,rfl⟩:∃ u:Nat,v=u:=⟨v.toNat,by omega⟩
      have hu:h+u<tq:=by omega
      have hent:entI (blkL code h tq) (u:Int)=code.getD (h+u) nopI:=by
       unfold entI;rw [if_pos (by rw [hbl];omega),Int.toNat_natCast,List.getD_eq_getElem?_getD,hget u hu,List.getD_eq_getElem?_getD]
      obtain ⟨z,hz⟩:∃ z,code[h+u]? = some z:=⟨_,List.getElem?_eq_getElem (by omega)⟩
      have hez:entI (blkL code h tq) (u:Int)=z:=by rw [hent,List.getD_eq_getElem?_getD,hz];rfl
      rw [hez] at hi2 hl ⊢;rw [if_pos (by omega),show (h:Int)+(u:Int)=((h+u:Nat):Int) by omega] at hi2;rw [line_aim hz hl.2 hl.1 hi2]
     ·rw [if_neg hv0] at hi2
      have:entI (blkL code h tq) v=i:=by
       unfold aimF at hi2;rw [if_pos (by omega)] at hi2;exact Option.some.inj hi2
      rw [this]
    intro p i hi;by_cases hp:p<Q.length
    ·rw [List.getElem?_append_left (by rw [List.length_map];exact hp)] at hi;obtain ⟨v,hv,rfl⟩:=getElem?_map_some hi;have hm:=hlay.line v (List.mem_of_getElem? hv);rw [← hsplit] at hm;exact hone p v (by rw [hlf,List.getElem?_append_left hp,hv]) hm.1 hm.2.1 hm.2.2
    ·rw [List.getElem?_append_right (by rw [List.length_map];omega),List.length_map] at hi;by_cases hp2:p=Q.length
     ·subst hp2;rw [Nat.sub_self] at hi;have:j=i:=by simpa using hi
      rw [← this];exact hj1
     ·have hp3:p-Q.length=1:=by
       have:=(List.getElem?_eq_some_iff.1 hi).1;simp only [List.length_cons,List.length_nil] at this;omega
      rw [hp3] at hi;have:entI (blkL code h tq) y=i:=by simpa using hi
      rw [← this];have hm:=hlay.slot;rw [← hsplit] at hm;exact hone p y (by rw [hlf,List.getElem?_append_right (by omega),hp3];rfl) hm.1 hm.2.2.2.1 hm.2.2.2.2
   obtain ⟨hgo,hst⟩:=run_goes hlay haim hgx A c hsg;rw [hA1]
   rcases seg_run hR hre.fit hlen h0 (blkL code h (tq-1)) h a c g n (fun k i hi=>by
    obtain ⟨h1,h2⟩:=hL0 (tq-1) (by omega) k i hi;exact ⟨h2,hline _ i h2 (by omega) (by omega)⟩) hr hq with ⟨r1,r2⟩ | ⟨c1,a1,g1,r1,r2,r3,r4⟩
   ·exact ⟨r2,(hst t _ r1).le (by omega)⟩
   ·rw [hLl,show h+(tq-1-h)=tq-1 by omega] at r2 r4;have hgood:=(fit_at hre.fit hx).1;obtain ⟨tt,t1,t2,t3,t4⟩:=hR.goes a1 (tq-1) c1 x r2 hx hgood hgx;have t1o:=t1;rw [show ((tq-1:Nat):Int)+1=(tq:Int) by omega] at t1 t4;have hsx:=step_ex (code:=code) (c:=a1) (pc:=((tq-1:Nat):Int)) (i:=x) (by omega) (by omega) (by rw [Int.toNat_natCast];exact hx) hgood (hR.ok _ _ _ r2);rw [show ((tq-1:Nat):Int)+1=(tq:Int) by omega] at hsx;have hex0:(exI (tq:Int) x a1).1=0:=by rw [goes_ex hgx]
    rw [hex0,if_pos rfl,t1] at hsx
    obtain ⟨g2,rfl⟩:∃ g2,g1=g2+1:=by
     cases g1 with
     | zero=>
      have:(0:Int)=t:=congrArg Prod.fst r4;exact absurd this.symm h0
     | succ g=>exact ⟨g,rfl⟩
    rw [runQ_s,hsx,if_pos rfl] at r4;dsimp only at r4;simp only [Prod.mk.injEq] at r4;obtain ⟨q1,q2,q3⟩:=r4
    obtain ⟨i1,i2⟩:=ih g2 (by omega) _ tt _ (n-((tq-1-h:Nat):Int)-1) t2 t4 (by
     refine Prod.ext q1 (Prod.ext ?_ q3);show _=n-((tq-1-h:Nat):Int)-1
     omega)
    have g1:=hgo c1 r1;have hjn:=jmp_new hx hgx hj2 t1o t3 (by rw [show ((tq-1:Nat):Int)+1=(tq:Int) by omega,hA3]);rw [hjn,goes_eq haim.op hgx (haim.goes hgx),← hA3] at g1;refine ⟨by omega,(g1.st i2).le (by omega)⟩
  ·
   have hgx:goesF x=false:=by simpa using hgx
   have hLline:∀ i∈blkL code h tq,lineI i:=fun i hi=>by
    obtain ⟨p,hp⟩:=List.mem_iff_getElem?.1 hi;obtain ⟨h1,h2⟩:=hL0 tq (by omega) p i hp;refine ⟨(fit_at hre.fit h2).1,?_⟩;by_cases he:h+p+1<tq
    ·exact hline _ i h2 (by omega) he
    ·rw [show h+p=tq-1 by omega,hx] at h2;cases h2;exact hgx
   obtain ⟨O,hlay⟩:=lay_line hLline (by intro he;rw [he] at hbl;simp at hbl;omega);have hlf:=hlay.eq;have hOl:=hlay.len
   have hsg:segD new A (O.map (entI (blkL code h tq))):=by
    intro p i hi;obtain ⟨v,hv,rfl⟩:=getElem?_map_some hi;obtain ⟨hl,h1,h2⟩:=hlay.line v (List.mem_of_getElem? hv);obtain ⟨i,hi1,hi2⟩:=hseg p v (by rw [hlf,hv]);rw [hi1];by_cases hv0:0≤v
    ·obtain ⟨u,rfl⟩:∃ u:Nat,v=u:=⟨v.toNat,by omega⟩
     have hu:h+u<tq:=by omega
     obtain ⟨z,hz⟩:∃ z,code[h+u]? = some z:=⟨_,List.getElem?_eq_getElem (by omega)⟩
     have hez:entI (blkL code h tq) (u:Int)=z:=by
      unfold entI;rw [if_pos (by rw [hbl];omega),Int.toNat_natCast,List.getD_eq_getElem?_getD,hget u hu,hz];rfl
     rw [hez] at hi2 hl ⊢;rw [if_pos (by omega),show (h:Int)+(u:Int)=((h+u:Nat):Int) by omega] at hi2;rw [line_aim hz hl.2 hl.1 hi2]
    ·rw [if_neg hv0] at hi2
     have:entI (blkL code h tq) v=i:=by
      unfold aimF at hi2;rw [if_pos (by omega)] at hi2;exact Option.some.inj hi2
     rw [this]
   obtain ⟨hgo,hst⟩:=run_next hlay A c hsg;rw [hA1]
   rcases seg_run hR hre.fit hlen h0 (blkL code h tq) h a c g n (fun k i hi=>by
    obtain ⟨h1,h2⟩:=hL0 tq (by omega) k i hi;exact ⟨h2,(hLline i (List.mem_of_getElem? hi)).2⟩) hr hq with ⟨r1,r2⟩ | ⟨c1,a1,g1,r1,r2,r3,r4⟩
   ·exact ⟨r2,(hst t _ r1).le (by omega)⟩
   ·rw [hbl,show h+(tq-h)=tq by omega] at r2 r4;have hlt2:=hR.lt _ _ _ r2
    have hmem:tq∈headsF code:=by
     rw [← htq] at hlt2 ⊢;unfold bA hdAt at hlt2 ⊢;by_cases hk2:k+1<(headsF code).length
     ·rw [if_pos hk2,List.getD_eq_getElem?_getD,List.getElem?_eq_getElem hk2];exact List.getElem_mem hk2
     ·rw [if_neg hk2] at hlt2;omega
    obtain ⟨i1,i2⟩:=ih g1 (by omega) _ tq _ (n-((tq-h:Nat):Int)) hmem r2 r4;have g1':=hgo c1 r1;have hA3:newF m (tq:Int)=((A+O.length:Nat):Int):=by rw [hA2,hlf]
    rw [← hA3] at g1';refine ⟨by omega,(g1'.st i2).le (by omega)⟩
theorem reorg_zero {code:List In} (hf:fitF code=true) (h:0<code.length):newF (layAll code).anew 0=0∧0∈headsF code:=by
 have h1:=head_mem hf h (.inl rfl);refine ⟨?_,h1⟩;obtain ⟨k,hk,hb⟩:=head_idx h1
 have h2:bA code 0=0:=by
  cases k with
  | zero=>exact hb
  | succ k=>
   obtain ⟨s1,s2⟩:=hs_sorted code;have:=hd_lt s1 s2 (n:=code.length) (show 0<k+1 by omega) (by omega);unfold bA at hb;omega
 have:=all_new code 0 (by omega);rw [h2] at this;exact this
inductive Rl where
 | go | top
 | en (k s:Nat)
 | ow (n s:Nat)
 | bo (s:Nat) (b:Int)
 | ck (s:Nat) (b r z:Int)
 | le (k s:Nat)
deriving DecidableEq
def numR (r:Int):Prop:=r=4∨(8≤r∧r≤15)
def valR (r:Int):Prop:=r=0∨numR r
def owR (n s:Nat):Rl:=if n=s then .bo s 0 else .ow n s
inductive OkI (D N:Int) (rl:Int→Option Rl) (p:Int):Rl→In→Prop where
 | go {t:Int}:rl t=some .top→OkI D N rl p .go ⟨17,0,0,0,t⟩
 | top:rl (p+1)=some (.bo 0 0)→OkI D N rl p .top ⟨10,29,0,0,N⟩
 | alu {s:Nat} {b op a x y:Int}:1≤op∧op≤9→numR a→(b=0∨a≠8)→valR x→valR y→rl (p+1)=some (.bo s b)→OkI D N rl p (.bo s b) ⟨op,a,x,y,0⟩
 | num {s:Nat} {b a n:Int}:numR a→(b=0∨a≠8)→rl (p+1)=some (.bo s b)→OkI D N rl p (.bo s b) ⟨10,a,0,0,n⟩
 | ldl {s:Nat} {b a n:Int}:numR a→(b=0∨a≠8)→2≤n→n<s→rl (p+1)=some (.bo s b)→OkI D N rl p (.bo s b) ⟨12,a,30,0,n⟩
 | stl {s:Nat} {b a n:Int}:valR a→2≤n→n<s→rl (p+1)=some (.bo s b)→OkI D N rl p (.bo s b) ⟨13,a,30,0,n⟩
 | ldg {s:Nat} {b a n:Int}:numR a→(b=0∨a≠8)→0≤n→n<D→rl (p+1)=some (.bo s b)→OkI D N rl p (.bo s b) ⟨12,a,0,0,n⟩
 | stg {s:Nat} {b a n:Int}:valR a→0≤n→n<D→rl (p+1)=some (.bo s b)→OkI D N rl p (.bo s b) ⟨13,a,0,0,n⟩
 | chkv {s:Nat} {b r z:Int}:numR r→rl (p+1)=some (.ck s b r z)→OkI D N rl p (.bo s b) ⟨14,r,0,0,z⟩
 | chka {s:Nat} {z:Int}:rl (p+1)=some (.bo s z)→OkI D N rl p (.bo s 0) ⟨14,8,0,0,z⟩
 | ldx {s:Nat} {b r z a n:Int}:numR a→(b=0∨a≠8)→numR r→0≤n→n+z≤D→rl (p+1)=some (.bo s b)→OkI D N rl p (.ck s b r z) ⟨12,a,r,0,n⟩
 | stx {s:Nat} {z a n:Int}:valR a→0≤n→n+z≤D→z≠0→rl (p+1)=some (.bo s 0)→OkI D N rl p (.bo s z) ⟨13,a,8,0,n⟩
 | beq {s:Nat} {a k:Int}:numR a→rl (p+1)=some (.bo s 0)→rl (p+1+k)=some (.bo s 0)→OkI D N rl p (.bo s 0) ⟨15,a,0,0,k⟩
 | jmp {s:Nat} {t:Int}:rl t=some (.bo s 0)→OkI D N rl p (.bo s 0) ⟨17,0,0,0,t⟩
 | jal {s s2:Nat} {t:Int}:rl t=some (.en 0 s2)→rl (p+1)=some (.bo s 0)→OkI D N rl p (.bo s 0) ⟨18,0,0,0,t⟩
 | halt {s:Nat}:OkI D N rl p (.bo s 0) ⟨20,0,0,0,0⟩
 | read {s:Nat}:rl (p+1)=some (.bo s 0)→OkI D N rl p (.bo s 0) ⟨20,0,0,0,1⟩
 | writ {s:Nat}:rl (p+1)=some (.bo s 0)→OkI D N rl p (.bo s 0) ⟨20,0,0,0,2⟩
 | lea {s:Nat}:2≤s→s≤22→rl (p+1)=some (.le 1 s)→OkI D N rl p (.bo s 0) ⟨10,29,30,0,(s:Int)⟩
 | le1 {s:Nat}:rl (p+1)=some (.le 2 s)→OkI D N rl p (.le 1 s) ⟨12,31,30,0,0⟩
 | le2 {s:Nat}:rl (p+1)=some (.le 3 s)→OkI D N rl p (.le 2 s) ⟨12,30,30,0,1⟩
 | le3 {s:Nat}:OkI D N rl p (.le 3 s) ⟨19,31,0,0,0⟩
 | en0 {s:Nat}:2≤s→s≤22→rl (p+1)=some (.en 1 s)→OkI D N rl p (.en 0 s) ⟨10,29,29,0,-(s:Int)⟩
 | en1 {s:Nat}:rl (p+1)=some (.en 2 s)→OkI D N rl p (.en 1 s) ⟨10,1,29,0,-D⟩
 | en2 {s:Nat}:rl (p+1)=some (.en 3 s)→OkI D N rl p (.en 2 s) ⟨14,1,7,0,32767⟩
 | en3 {s:Nat}:rl (p+1)=some (.en 4 s)→OkI D N rl p (.en 3 s) ⟨13,31,29,0,0⟩
 | en4 {s:Nat}:rl (p+1)=some (.en 5 s)→OkI D N rl p (.en 4 s) ⟨13,30,29,0,1⟩
 | en5 {s:Nat}:rl (p+1)=some (owR 2 s)→OkI D N rl p (.en 5 s) ⟨10,30,29,0,0⟩
 | own {n s:Nat} {a:Int}:valR a→2≤n→n<s→rl (p+1)=some (owR (n+1) s)→OkI D N rl p (.ow n s) ⟨13,a,30,0,(n:Int)⟩
structure Fr where
 mk ::
 (fp s ret:Nat)
structure Qm where
 mk ::
 (D N d:Nat) (f:Int→Int) (rl:Int→Option Rl) (hd:Nat→Prop)
def retOk (k:Qm) (r s:Nat):Prop:=k.rl (r:Int)=some (.bo s 0)∧k.hd r
def topF (N:Nat):List Fr→Nat
 | []=>N
 | x::_=>x.fp
def basF:List Fr→Int
 | []=>0
 | x::_=>(x.fp:Int)
def basG (d:Nat):List Fr→Int
 | []=>0
 | x::_=>((x.fp+d:Nat):Int)
def szF:List Fr→Nat
 | []=>0
 | x::_=>x.s
def FrOk (k:Qm) (a c:Co):List Fr→Prop
 | []=>True
 | x::F=>(x.fp+x.s=topF k.N F∧k.D≤x.fp∧2≤x.s∧x.s≤22∧retOk k x.ret (szF F))∧(a.mem[x.fp]? = some (x.ret:Int)∧c.mem[x.fp+k.d]? = some (k.f (x.ret:Int))∧a.mem[x.fp+1]? = some (basF F)∧c.mem[x.fp+1+k.d]? = some (basG k.d F))∧(∀ j,2≤j→j<x.s→a.mem[x.fp+j]? = c.mem[x.fp+j+k.d]?)∧FrOk k a c F
structure Cor (k:Qm) (a c:Co) (F:List Fr):Prop where
 oka:CoOk a
 okc:CoOk c
 la:a.mem.length=k.N
 lc:c.mem.length=k.N+k.d
 inp:a.inp=c.inp
 out:a.out=c.out
 dat:∀ x,x<k.D→a.mem[x]? = c.mem[x]?
 fr:FrOk k a c F
 num:∀ r,numR r→rgX a r=rgX c r
structure BoT (k:Qm) (s:Nat) (b:Int) (F:List Fr) (a c:Co):Prop where
 sz:s=szF F
 sa:rgX a 29=(topF k.N F:Int)
 sc:rgX c 29=((topF k.N F+k.d:Nat):Int)
 ba:rgX a 30=basF F
 bc:rgX c 30=basG k.d F
 bd:b≠0→0≤rgX a 8∧rgX a 8<b
structure EnT (k:Qm) (n s:Nat) (F:List Fr) (a c:Co) (ret:Nat):Prop where
 sz:1≤n→2≤s∧s≤22
 ra:n≤3→rgX a 31=(ret:Int)
 rc:n≤3→rgX c 31=k.f (ret:Int)
 rl:retOk k ret (szF F)
 sa:rgX a 29=(topF k.N F:Int)-(if n=0 then 0 else (s:Int))
 sc:rgX c 29=(topF k.N F:Int)+k.d-(if n=0 then 0 else (s:Int))
 ba:n≤5→rgX a 30=basF F
 bc:n≤5→rgX c 30=basG k.d F
 ta:n=2→rgX a 1=(topF k.N F:Int)-s-k.D
 tc:n=2→rgX c 1=(topF k.N F:Int)+k.d-s-k.D
 room:3≤n→k.D+s≤topF k.N F
 m0a:4≤n→a.mem[topF k.N F-s]? = some (ret:Int)
 m0c:4≤n→c.mem[topF k.N F-s+k.d]? = some (k.f (ret:Int))
 m1a:5≤n→a.mem[topF k.N F-s+1]? = some (basF F)
 m1c:5≤n→c.mem[topF k.N F-s+1+k.d]? = some (basG k.d F)
structure LeT (k:Qm) (n s:Nat) (x:Fr) (F:List Fr) (a c:Co):Prop where
 sz:s=x.s
 sa:rgX a 29=(topF k.N F:Int)
 sc:rgX c 29=((topF k.N F+k.d:Nat):Int)
 ba:rgX a 30=(x.fp:Int)
 bc:rgX c 30=((x.fp+k.d:Nat):Int)
 ra:n=2→rgX a 31=(x.ret:Int)
 rc:n=2→rgX c 31=k.f (x.ret:Int)
def RegT (k:Qm) (F:List Fr) (a c:Co):Rl→Prop
 | .go=>F=[]∧rgX a 30=0∧rgX c 30=0
 | .top=>F=[]∧rgX a 30=0∧rgX c 30=0
 | .bo s b=>BoT k s b F a c
 | .ck s b r z=>BoT k s b F a c∧0≤rgX a r∧rgX a r<z
 | .en n s=>n≤5∧∃ ret,EnT k n s F a c ret
 | .ow n s=>∃ ret,EnT k 6 s F a c ret∧rgX a 30=((topF k.N F-s:Nat):Int)∧rgX c 30=((topF k.N F-s+k.d:Nat):Int)∧∀ j,2≤j→j<n→a.mem[topF k.N F-s+j]? = c.mem[topF k.N F-s+j+k.d]?
 | .le n s=>if n=3 then ∃ ret:Nat,rgX a 29=(topF k.N F:Int)∧rgX c 29=((topF k.N F+k.d:Nat):Int)∧rgX a 30=basF F∧rgX c 30=basG k.d F∧rgX a 31=(ret:Int)∧rgX c 31=k.f (ret:Int)∧retOk k ret (szF F) else ∃ x G,F=x::G∧LeT k n s x G a c
def TyR (k:Qm) (a:Co) (p:Nat) (c:Co):Prop:=∃ r F,k.rl (p:Int)=some r∧Cor k a c F∧RegT k F a c r
theorem FrOk.mem {k:Qm} {a c a2 c2:Co}:∀ {F:List Fr},FrOk k a c F→(∀ x,topF k.N F≤x→a2.mem[x]? = a.mem[x]?)→(∀ x,topF k.N F+k.d≤x→c2.mem[x]? = c.mem[x]?)→FrOk k a2 c2 F
 | [],h,_,_=>trivial
 | y::F,⟨⟨h1,h2,h3,h3b,h4⟩,⟨h5,h6,h7,h8⟩,h9,h10⟩,ha,hc=>by
  have ha:∀ x,y.fp≤x→a2.mem[x]? = a.mem[x]? := ha;have hc:∀ x,y.fp+k.d≤x→c2.mem[x]? = c.mem[x]? := hc;refine ⟨⟨h1,h2,h3,h3b,h4⟩,⟨?_,?_,?_,?_⟩,fun j hj1 hj2=>?_,h10.mem (fun x hx=>ha x (by omega)) (fun x hx=>hc x (by omega))⟩
  ·rw [ha _ (Nat.le_refl _)];exact h5
  ·rw [hc _ (Nat.le_refl _)];exact h6
  ·rw [ha _ (by omega)];exact h7
  ·rw [hc _ (by omega)];exact h8
  ·rw [ha _ (by omega),hc _ (by omega)];exact h9 j hj1 hj2
theorem FrOk.same {k:Qm} {a c a2 c2:Co} {F:List Fr} (h:FrOk k a c F) (ha:a2.mem=a.mem) (hc:c2.mem=c.mem):FrOk k a2 c2 F:=h.mem (fun x _=>by rw [ha]) (fun x _=>by rw [hc])
theorem FrOk.top {k:Qm} {a c:Co}:∀ {F:List Fr},FrOk k a c F→topF k.N F≤k.N
 | [],_=>Nat.le_refl _
 | y::F,h=>by
  have:=h.1.1;have h2:=h.2.2.2.top;show y.fp≤k.N
  omega
theorem FrOk.low {k:Qm} {a c:Co} {F:List Fr} (h:FrOk k a c F) (hD:k.D≤k.N):k.D≤topF k.N F:=by
 cases F with
 | nil=>exact hD
 | cons y F=>exact h.1.2.1
theorem rg_wr_self {s:Co} {w v:Int} (hl:s.regs.length=32) (h0:0<w) (h1:w<32):rgX (wrX w v s) w=v:=by
 unfold wrX rgX;rw [if_neg (by omega)];dsimp only;rw [List.getD_eq_getElem?_getD,List.getElem?_set_self (by omega)];rfl
theorem numR_ne {r:Int} (h:numR r):0<r∧r<32∧r≠1∧r≠29∧r≠30∧r≠31:=by unfold numR at h;omega
theorem Cor.val {k:Qm} {a c:Co} {F:List Fr} (h:Cor k a c F) {r:Int} (hr:valR r):rgX a r=rgX c r:=by
 rcases hr with rfl | hr
 ·rw [rgX_0 h.oka,rgX_0 h.okc]
 ·exact h.num r hr
theorem Cor.wr {k:Qm} {a c:Co} {F:List Fr} (h:Cor k a c F) {w v:Int} (hw:numR w) (hv:inK32 v):Cor k (wrX w v a) (wrX w v c) F:=by
 obtain ⟨n0,n1,_⟩:=numR_ne hw;refine ⟨h.oka.wr (by omega) hv,h.okc.wr (by omega) hv,?_,?_,?_,?_,?_,h.fr.same (wr_mem' _ _ _).1 (wr_mem' _ _ _).1,fun r hr=>?_⟩
 ·rw [(wr_mem' _ _ _).1];exact h.la
 ·rw [(wr_mem' _ _ _).1];exact h.lc
 ·rw [(wr_mem' _ _ _).2.1,(wr_mem' _ _ _).2.1];exact h.inp
 ·rw [(wr_mem' _ _ _).2.2,(wr_mem' _ _ _).2.2];exact h.out
 ·rw [(wr_mem' _ _ _).1,(wr_mem' _ _ _).1];exact h.dat
 ·by_cases he:r=w
  ·subst he;rw [rg_wr_self h.oka.rl n0 n1,rg_wr_self h.okc.rl n0 n1]
  ·have:=numR_ne hr;rw [rg_wr (by omega) (by omega) (.inr he),rg_wr (by omega) (by omega) (.inr he)];exact h.num r hr
theorem Cor.wx {k:Qm} {a c:Co} {F:List Fr} (h:Cor k a c F) {w u v:Int} (h0:0<w) (hw:¬ numR w) (hu:inK32 u) (hv:inK32 v):Cor k (wrX w u a) (wrX w v c) F:=by
 refine ⟨h.oka.wr (by omega) hu,h.okc.wr (by omega) hv,?_,?_,?_,?_,?_,h.fr.same (wr_mem' _ _ _).1 (wr_mem' _ _ _).1,fun r hr=>?_⟩
 ·rw [(wr_mem' _ _ _).1];exact h.la
 ·rw [(wr_mem' _ _ _).1];exact h.lc
 ·rw [(wr_mem' _ _ _).2.1,(wr_mem' _ _ _).2.1];exact h.inp
 ·rw [(wr_mem' _ _ _).2.2,(wr_mem' _ _ _).2.2];exact h.out
 ·rw [(wr_mem' _ _ _).1,(wr_mem' _ _ _).1];exact h.dat
 ·have:=numR_ne hr;have he:r≠w:=fun he=>hw (he ▸ hr)
  rw [rg_wr (by omega) (by omega) (.inr he),rg_wr (by omega) (by omega) (.inr he)];exact h.num r hr
def stX (s:Co) (x:Nat) (v:Int):Co:={ s with mem:=s.mem.set x v }
theorem st_ok {s:Co} (h:CoOk s) {x:Nat} {v:Int} (hv:inK32 v):CoOk (stX s x v):=⟨h.rl,h.rb,h.r0,mem_set h.mb hv⟩
theorem st_get {s:Co} {x y:Nat} {v:Int}:(stX s x v).mem[y]? = if x=y∧x<s.mem.length then some v else s.mem[y]? := by
 unfold stX;dsimp only;rw [List.getElem?_set];by_cases h:x=y
 ·subst h;by_cases hl:x<s.mem.length
  ·rw [if_pos rfl,if_pos hl,if_pos ⟨rfl,hl⟩]
  ·rw [if_pos rfl,if_neg hl,if_neg (fun h=>hl h.2),List.getElem?_eq_none (by omega)]
 ·rw [if_neg h,if_neg (fun h2=>h h2.1)]
theorem st_ne {s:Co} {x y:Nat} {v:Int} (h:x≠y):(stX s x v).mem[y]? = s.mem[y]? := by rw [st_get,if_neg (fun h2=>h h2.1)]
theorem st_eq {s:Co} {x:Nat} {v:Int} (h:x<s.mem.length):(stX s x v).mem[x]? = some v:=by rw [st_get,if_pos ⟨rfl,h⟩]
theorem Cor.stD {k:Qm} {a c:Co} {F:List Fr} (h:Cor k a c F) (hD:k.D≤k.N) {x:Nat} {v:Int} (hx:x<k.D) (hv:inK32 v):Cor k (stX a x v) (stX c x v) F:=by
 have hlow:=h.fr.low hD;refine ⟨st_ok h.oka hv,st_ok h.okc hv,by unfold stX;simp [h.la],by unfold stX;simp [h.lc],h.inp,h.out,fun y hy=>?_,h.fr.mem (fun y hy=>st_ne (by omega)) (fun y hy=>st_ne (by omega)),h.num⟩;by_cases he:x=y
 ·subst he;rw [st_eq (by rw [h.la];omega),st_eq (by rw [h.lc];omega)]
 ·rw [st_ne he,st_ne he];exact h.dat y hy
theorem Cor.stF {k:Qm} {a c:Co} {y:Fr} {F:List Fr} (h:Cor k a c (y::F)) {j:Nat} {v:Int} (h2:2≤j) (hj:j<y.s) (hv:inK32 v):Cor k (stX a (y.fp+j) v) (stX c (y.fp+j+k.d) v) (y::F):=by
 obtain ⟨⟨f1,f2,f3,f3b,f4⟩,⟨f5,f6,f7,f8⟩,f9,f10⟩:=h.fr;have htop:=f10.top;refine ⟨st_ok h.oka hv,st_ok h.okc hv,by unfold stX;simp [h.la],by unfold stX;simp [h.lc],h.inp,h.out,fun z hz=>?_,⟨⟨f1,f2,f3,f3b,f4⟩,⟨?_,?_,?_,?_⟩,fun i i1 i2=>?_,f10.mem (fun z hz=>st_ne (by omega)) (fun z hz=>st_ne (by omega))⟩,h.num⟩
 ·rw [st_ne (by omega),st_ne (by omega)];exact h.dat z hz
 ·rw [st_ne (by omega)];exact f5
 ·rw [st_ne (by omega)];exact f6
 ·rw [st_ne (by omega)];exact f7
 ·rw [st_ne (by omega)];exact f8
 ·by_cases he:i=j
  ·subst he;rw [st_eq (by rw [h.la];omega),st_eq (by rw [h.lc];omega)]
  ·rw [st_ne (by omega),st_ne (by omega)];exact f9 i i1 i2
theorem Cor.stN {k:Qm} {a c:Co} {F:List Fr} (h:Cor k a c F) {x:Nat} {u v:Int} (h1:k.D≤x) (h2:x<topF k.N F) (hu:inK32 u) (hv:inK32 v):Cor k (stX a x u) (stX c (x+k.d) v) F:=
 ⟨st_ok h.oka hu,st_ok h.okc hv,by unfold stX;simp [h.la],by unfold stX;simp [h.lc],h.inp,h.out,fun z hz=>by rw [st_ne (by omega),st_ne (by omega)];exact h.dat z hz,h.fr.mem (fun z hz=>st_ne (by omega)) (fun z hz=>st_ne (by omega)),h.num⟩
end Go.Proofs.YtkolmklfgbimoaaGreatDoor
namespace Go.Proofs.YtkolmklfgbimoaaGreatDoor.Cm
open Go
def lookR (RL:List Rl) (t:Int):Option Rl:=if 0≤t then RL[t.toNat]? else none
theorem lookR_nat (RL:List Rl) (n:Nat):lookR RL (n:Int)=RL[n]? := by unfold lookR;rw [if_pos (by omega),Int.toNat_natCast]
inductive OkO (D:Int) (rl:Int→Option Rl) (pats:List Pa) (p:Int):Rl→In→Prop where
 | pl {r:Rl} {i:In}:(∀ q∈pats,q.pl≠p)→r ≠ .top→(∀ s,r ≠ .en 1 s)→i.op≠17→i.op≠18→OkI 0 0 rl p r i→OkO D rl pats p r i
 | go {t:Int}:(⟨p,0,0⟩:Pa)∈pats→rl t=some .top→OkO D rl pats p .go ⟨17,0,0,0,t⟩
 | jmp {s:Nat} {t:Int}:(⟨p,0,0⟩:Pa)∈pats→rl t=some (.bo s 0)→OkO D rl pats p (.bo s 0) ⟨17,0,0,0,t⟩
 | jal {s s2:Nat} {t:Int}:(⟨p,0,0⟩:Pa)∈pats→rl t=some (.en 0 s2)→rl (p+1)=some (.bo s 0)→OkO D rl pats p (.bo s 0) ⟨18,0,0,0,t⟩
 | ext {s:Nat} {j:Int}:(⟨p,2,j⟩:Pa)∈pats→rl (p+1)=some (.bo s 0)→OkO D rl pats p (.bo s 0) ⟨18,0,0,0,0⟩
 | top:(⟨p,4,0⟩:Pa)∈pats→rl (p+1)=some (.bo 0 0)→OkO D rl pats p .top ⟨10,29,0,0,0⟩
 | en1 {s:Nat}:(⟨p,3,0⟩:Pa)∈pats→rl (p+1)=some (.en 2 s)→OkO D rl pats p (.en 1 s) ⟨10,1,29,0,0⟩
 | ldg {s:Nat} {b a n:Int}:(⟨p,1,0⟩:Pa)∈pats→numR a→(b=0∨a≠8)→0≤n→n<D→rl (p+1)=some (.bo s b)→OkO D rl pats p (.bo s b) ⟨12,a,0,0,n⟩
 | stg {s:Nat} {b a n:Int}:(⟨p,1,0⟩:Pa)∈pats→valR a→0≤n→n<D→rl (p+1)=some (.bo s b)→OkO D rl pats p (.bo s b) ⟨13,a,0,0,n⟩
 | ldx {s:Nat} {b r z a n:Int}:(⟨p,1,0⟩:Pa)∈pats→numR a→(b=0∨a≠8)→numR r→0≤n→n+z≤D→rl (p+1)=some (.bo s b)→OkO D rl pats p (.ck s b r z) ⟨12,a,r,0,n⟩
 | stx {s:Nat} {z a n:Int}:(⟨p,1,0⟩:Pa)∈pats→valR a→0≤n→n+z≤D→z≠0→rl (p+1)=some (.bo s 0)→OkO D rl pats p (.bo s z) ⟨13,a,8,0,n⟩
def noR:Rl:=.le 0 0
theorem okI_mono {D N:Int} {rl rl2:Int→Option Rl} {p p2:Int} {r:Rl} {i:In} (h:OkI D N rl p r i) (hn:∀ ρ,rl (p+1)=some ρ→ρ≠noR→rl2 (p2+1)=some ρ) (hj:∀ k ρ,rl (p+1+k)=some ρ→ρ≠noR→rl2 (p2+1+k)=some ρ) (ht:i.op=17∨i.op=18→∀ ρ,rl i.imm=some ρ→ρ≠noR→rl2 i.imm=some ρ):OkI D N rl2 p2 r i:=by
 have nr:∀ {s:Nat} {b:Int},Rl.bo s b≠noR:=fun h=>by cases h
 cases h with
 | go h=>exact .go (ht (.inl rfl) _ h (by intro h;cases h))
 | top h=>exact .top (hn _ h nr)
 | alu h1 h2 h3 h4 h5 h=>exact .alu h1 h2 h3 h4 h5 (hn _ h nr)
 | num h1 h2 h=>exact .num h1 h2 (hn _ h nr)
 | ldl h1 h2 h3 h4 h=>exact .ldl h1 h2 h3 h4 (hn _ h nr)
 | stl h1 h3 h4 h=>exact .stl h1 h3 h4 (hn _ h nr)
 | ldg h1 h2 h3 h4 h=>exact .ldg h1 h2 h3 h4 (hn _ h nr)
 | stg h1 h3 h4 h=>exact .stg h1 h3 h4 (hn _ h nr)
 | chkv h1 h=>exact .chkv h1 (hn _ h (by intro h;cases h))
 | chka h=>exact .chka (hn _ h nr)
 | ldx h1 h2 h3 h4 h5 h=>exact .ldx h1 h2 h3 h4 h5 (hn _ h nr)
 | stx h1 h2 h3 h4 h=>exact .stx h1 h2 h3 h4 (hn _ h nr)
 | beq h1 h2 h=>exact .beq h1 (hn _ h2 nr) (hj _ _ h nr)
 | jmp h=>exact .jmp (ht (.inl rfl) _ h nr)
 | jal h h1=>exact .jal (ht (.inr rfl) _ h (by intro h;cases h)) (hn _ h1 nr)
 | halt=>exact .halt
 | read h=>exact .read (hn _ h nr)
 | writ h=>exact .writ (hn _ h nr)
 | lea h1 h2 h=>exact .lea h1 h2 (hn _ h (by intro h;cases h))
 | le1 h=>exact .le1 (hn _ h (by intro h;cases h))
 | le2 h=>exact .le2 (hn _ h (by intro h;cases h))
 | le3=>exact .le3
 | en0 h1 h2 h=>exact .en0 h1 h2 (hn _ h (by intro h;cases h))
 | en1 h=>exact .en1 (hn _ h (by intro h;cases h))
 | en2 h=>exact .en2 (hn _ h (by intro h;cases h))
 | en3 h=>exact .en3 (hn _ h (by intro h;cases h))
 | en4 h=>exact .en4 (hn _ h (by intro h;cases h))
 | @en5 s h=>exact .en5 (hn _ h (by unfold owR;split <;> (intro h;cases h)))
 | @own n s a h1 h2 h3 h=>exact .own h1 h2 h3 (hn _ h (by unfold owR;split <;> (intro h;cases h)))
theorem OkO.mono {D D2:Int} {rl rl2:Int→Option Rl} {pats pats2:List Pa} {p:Int} {r:Rl} {i:In} (h:OkO D rl pats p r i) (hD:D≤D2) (hr:∀ t ρ,rl t=some ρ→ρ≠noR→rl2 t=some ρ) (hp:∀ q∈pats,q∈pats2) (hp2:∀ q∈pats2,q.pl=p→q∈pats):OkO D2 rl2 pats2 p r i:=by
 have nr:∀ {s:Nat} {b:Int},Rl.bo s b≠noR:=fun h=>by cases h
 cases h with
 | pl h1 h2 h3 h4 h5 h6=>exact .pl (fun q hq he=>h1 q (hp2 q hq he) he) h2 h3 h4 h5 (okI_mono h6 (fun ρ=>hr _ ρ) (fun k ρ=>hr _ ρ) (fun _ ρ=>hr _ ρ))
 | go h1 h=>exact .go (hp _ h1) (hr _ _ h (by intro h;cases h))
 | jmp h1 h=>exact .jmp (hp _ h1) (hr _ _ h nr)
 | jal h1 h2 h=>exact .jal (hp _ h1) (hr _ _ h2 (by intro h;cases h)) (hr _ _ h nr)
 | ext h1 h=>exact .ext (hp _ h1) (hr _ _ h nr)
 | top h1 h=>exact .top (hp _ h1) (hr _ _ h nr)
 | en1 h1 h=>exact .en1 (hp _ h1) (hr _ _ h (by intro h;cases h))
 | ldg h1 h2 h3 h4 h5 h=>exact .ldg (hp _ h1) h2 h3 h4 (by omega) (hr _ _ h nr)
 | stg h1 h3 h4 h5 h=>exact .stg (hp _ h1) h3 h4 (by omega) (hr _ _ h nr)
 | ldx h1 h2 h3 h4 h5 h6 h=>exact .ldx (hp _ h1) h2 h3 h4 h5 (by omega) (hr _ _ h nr)
 | stx h1 h2 h3 h4 h5 h=>exact .stx (hp _ h1) h2 h3 (by omega) h5 (hr _ _ h nr)
structure EntOk (S:Nat) (D:Int) (RL:List Rl) (t:Th):Prop where
 g:t.kind=0→0≤t.pl∧t.pl<D
 l:t.kind=1→0≤t.pl∧0<t.size∧t.pl+t.size≤D
 o:t.kind=2→2≤t.pl∧t.pl<S
 p:t.kind=3→∃ s2,lookR RL t.pl=some (.en 0 s2)
 k:0≤t.kind∧t.kind≤4
structure TyS (S:Nat) (s:CS) (RL:List Rl) (H:List Nat):Prop where
 len:RL.length=s.code.length+1
 ok:∀ (p:Nat) i,s.code[p]? = some i→p∈H∨∃ r,RL[p]? = some r∧OkO s.data (lookR RL) s.pats (p:Int) r i
 so:s.pats.Pairwise (fun a b=>a.pl<b.pl)
 pb:∀ q∈s.pats,0≤q.pl∧q.pl<(s.code.length:Int)
 ent:∀ e∈s.ents,EntOk S s.data RL e.2
 xp:∀ x∈s.exps,∃ s2,lookR RL x.pl=some (.en 0 s2)
theorem EntOk.mono {S S2:Nat} {D D2:Int} {RL RL2:List Rl} {t:Th} (h:EntOk S D RL t) (hS:S≤S2) (hD:D≤D2) (hr:∀ n ρ,lookR RL n=some ρ→lookR RL2 n=some ρ):EntOk S2 D2 RL2 t:=
 ⟨fun h0=>by have:=h.g h0;omega,fun h0=>by have:=h.l h0;omega,fun h0=>by have:=h.o h0;omega,fun h0=>by obtain ⟨s2,h1⟩:=h.p h0;exact ⟨s2,hr _ _ h1⟩,h.k⟩
theorem look_app {RL:List Rl} {X:List Rl} {t:Int} {ρ:Rl} (h:lookR RL t=some ρ):lookR (RL++X) t=some ρ:=by
 unfold lookR at h ⊢;split at h
 ·rename_i h0;rw [if_pos h0,List.getElem?_append_left (List.getElem?_eq_some_iff.1 h).1,h]
 ·cases h
def Xt (s s':CS):Prop:=s.code <+: s'.code∧∃ ps,s'.pats=s.pats++ps∧∀ q∈ps,(s.code.length:Int)≤q.pl
theorem Xt.tr {s s1 s2:CS} (h:Xt s s1) (g:Xt s1 s2):Xt s s2:=by
 obtain ⟨h1,ps,h2,h3⟩:=h;obtain ⟨g1,qs,g2,g3⟩:=g;refine ⟨h1.trans g1,ps++qs,by rw [g2,h2,List.append_assoc],fun q hq=>?_⟩;rcases List.mem_append.1 hq with hq | hq
 ·exact h3 q hq
 ·have:=g3 q hq;have:=h1.length_le;omega
theorem xt_same {s s':CS} (h1:s'.code=s.code) (h2:s'.pats=s.pats):Xt s s':=⟨by rw [h1];exact List.prefix_refl _,[],by rw [h2,List.append_nil],fun q hq=>by cases hq⟩
theorem xt_put (i:In) (s:CS):Xt s (mPut i s):=⟨List.prefix_append _ _,[],(List.append_nil _).symm,fun q hq=>by cases hq⟩
theorem xt_mark (i:In) (k n:Int) (s:CS):Xt s (mMark i k n s):=⟨List.prefix_append _ _,[⟨(s.code.length:Int),k,n⟩],rfl,fun q hq=>by rw [List.mem_singleton.1 hq];exact Int.le_refl _⟩
def Em (S:Nat) (s s':CS) (r r':Rl):Prop:=
 Xt s s'∧∀ RL H,TyS S s RL H→RL[s.code.length]? = some r→∃ RL',RL <+: RL'∧TyS S s' RL' H∧RL'[s'.code.length]? = some r'
theorem Em.tr {S:Nat} {s s1 s2:CS} {r r1 r2:Rl} (h:Em S s s1 r r1) (g:Em S s1 s2 r1 r2):Em S s s2 r r2:=by
 refine ⟨h.1.tr g.1,fun RL H ht hl=>?_⟩;obtain ⟨R1,p1,t1,l1⟩:=h.2 RL H ht hl;obtain ⟨R2,p2,t2,l2⟩:=g.2 R1 H t1 l1;exact ⟨R2,p1.trans p2,t2,l2⟩
theorem em_same {S:Nat} {s s':CS} {r:Rl} (h1:s'.code=s.code) (h2:s'.pats=s.pats) (h3:s'.ents=s.ents) (h4:s'.data=s.data) (h5:s'.exps=s.exps):Em S s s' r r:=by
 refine ⟨xt_same h1 h2,fun RL H ht hl=>⟨RL,List.prefix_refl _,⟨by rw [h1];exact ht.len,?_,by rw [h2];exact ht.so,by rw [h2,h1];exact ht.pb,by rw [h3,h4];exact ht.ent,by rw [h5];exact ht.xp⟩,by rw [h1];exact hl⟩⟩;rw [h1,h2,h4];exact ht.ok
theorem em_rf {S:Nat} {s:CS} {r:Rl}:Em S s s r r:=em_same rfl rfl rfl rfl rfl
theorem em_tail {S:Nat} (s:CS) {r:Rl}:Em S s (mTail s) r r:=em_same rfl rfl rfl rfl rfl
theorem em_give {S:Nat} (s:CS) {r:Rl}:Em S s (mGive s) r r:=em_same rfl rfl rfl rfl rfl
theorem pw_app {l m:List Pa} {n:Int} (h:l.Pairwise (fun a b=>a.pl<b.pl)) (h1:∀ a∈l,a.pl<n) (h2:∀ b∈m,b.pl=n) (h3:m.length≤1):(l++m).Pairwise (fun a b=>a.pl<b.pl):=by
 rw [List.pairwise_append];refine ⟨h,?_,fun a ha b hb=>by rw [h2 b hb];exact h1 a ha⟩;rcases m with _ | ⟨x,_ | ⟨y,t⟩⟩
 ·exact List.Pairwise.nil
 ·exact List.pairwise_singleton _ _
 ·simp at h3
theorem TyS.put {S:Nat} {s:CS} {RL:List Rl} {H:List Nat} (h:TyS S s RL H) {i:In} {r r':Rl} {ps:List Pa} (hl:RL[s.code.length]? = some r) (hps:∀ q∈ps,q.pl=(s.code.length:Int)) (hps1:ps.length≤1) (hi:s.code.length∈H∨OkO s.data (lookR (RL++[r'])) (s.pats++ps) (s.code.length:Int) r i):TyS S { s with code:=s.code++[i],pats:=s.pats++ps } (RL++[r']) H:=by
 refine ⟨by simp [h.len],fun p j hj=>?_,?_,fun q hq=>?_,fun e he=>(h.ent e he).mono (Nat.le_refl _) (Int.le_refl _) (fun _ _=>look_app),fun x hx=>?_⟩
 ·have hp:=(List.getElem?_eq_some_iff.1 hj).1;simp only [List.length_append,List.length_singleton] at hp;by_cases he:p=s.code.length
  ·subst he;rcases hi with hi | hi
   ·exact .inl hi
   right;have hj:(s.code++[i])[s.code.length]? = some j:=hj;rw [List.getElem?_append_right (Nat.le_refl _),Nat.sub_self] at hj;have hij:i=j:=by simpa using hj
   subst hij;exact ⟨r,by rw [List.getElem?_append_left (List.getElem?_eq_some_iff.1 hl).1,hl],hi⟩
  ·have hj:(s.code++[i])[p]? = some j:=hj;rw [List.getElem?_append_left (by omega)] at hj;rcases h.ok p j hj with h1 | ⟨ρ,h1,h2⟩
   ·exact .inl h1
   ·refine .inr ⟨ρ,by rw [List.getElem?_append_left (List.getElem?_eq_some_iff.1 h1).1,h1],h2.mono (Int.le_refl _) (fun t ρ ht _=>look_app ht) (fun q hq=>List.mem_append_left _ hq) (fun q hq he2=>?_)⟩;rcases List.mem_append.1 hq with hq | hq
    ·exact hq
    ·have:=hps q hq;omega
 ·exact pw_app h.so (fun a ha=>(h.pb a ha).2) hps hps1
 ·have hq:q∈s.pats++ps:=hq;rcases List.mem_append.1 hq with hq | hq
  ·have:=h.pb q hq;show 0≤q.pl∧q.pl<((s.code++[i]).length:Int)
   simp;omega
  ·have:=hps q hq;show 0≤q.pl∧q.pl<((s.code++[i]).length:Int)
   simp;omega
 ·obtain ⟨s2,h2⟩:=h.xp x hx;exact ⟨s2,look_app h2⟩
theorem last_of {RL:List Rl} {n:Nat} (h:RL.length=n+1) (r':Rl):(RL++[r'])[n+1]? = some r':=by
 rw [List.getElem?_append_right (by omega),show n+1-RL.length=0 by omega];rfl
theorem look_next {RL:List Rl} {n:Nat} (h:RL.length=n+1) (r':Rl):lookR (RL++[r']) ((n:Int)+1)=some r':=by
 rw [show (n:Int)+1=((n+1:Nat):Int) by omega,lookR_nat,last_of h]
theorem em_put {S:Nat} {s:CS} {i:In} {r r':Rl} (h2:r ≠ .top) (h3:∀ s,r ≠ .en 1 s) (h4:i.op≠17) (h5:i.op≠18) (hi:∀ rl:Int→Option Rl,rl ((s.code.length:Int)+1)=some r'→OkI 0 0 rl (s.code.length:Int) r i):Em S s (mPut i s) r r':=by
 refine ⟨xt_put _ _,fun RL H ht hl=>⟨RL++[r'],List.prefix_append _ _,?_,?_⟩⟩
 ·have:=ht.put (i:=i) (r':=r') (ps:=[]) hl (fun q hq=>by cases hq) (by simp) (.inr (.pl (fun q hq he=>?_) h2 h3 h4 h5 (hi _ (look_next ht.len _))))
  ·rw [List.append_nil] at this;exact this
  ·rw [List.append_nil] at hq;have:=(ht.pb q hq).2;omega
 ·show (RL++[r'])[(s.code++[i]).length]? = some r'
  rw [List.length_append,List.length_singleton];exact last_of ht.len _
theorem find_mem (es:List (ByteArray×Th)) (bs:List Nat) (name:ByteArray):∀ (i d:Nat),i≤es.length→(findG es bs name i d).2.2=true→∃ e∈es,e.2=(findG es bs name i d).1
 | 0,d,_,h=>by cases h
 | i+1,d,hi,h=>by
  unfold findG at h ⊢;split at h
  ·rename_i hn;rw [if_pos hn];exact ⟨es.getD i (.empty,th0),by rw [List.getD_eq_getElem?_getD,List.getElem?_eq_getElem (by omega)];exact List.getElem_mem (by omega),rfl⟩
  ·rename_i hn;rw [if_neg hn];exact find_mem es bs name i _ (by omega) h
theorem look_ent {n:List UInt8} {pl:Int} {s:CS} (h:(mLook n pl s).2.e=0):s.e=0∧(mLook n pl s).2=s∧∃ e∈s.ents,e.2=(mLook n pl s).1:=by
 unfold mLook at h ⊢;split at h
 ·rename_i hf;rw [if_pos hf];exact ⟨h,rfl,find_mem _ _ _ _ _ (Nat.le_refl _) hf⟩
 ·exact absurd h (stop_e _ _ _ (by decide))
theorem em_put2 {S:Nat} {s:CS} {i:In} {r r':Rl} (h2:r ≠ .top) (h3:∀ s,r ≠ .en 1 s) (h4:i.op≠17) (h5:i.op≠18) (hi:∀ RL H,TyS S s RL H→lookR (RL++[r']) ((s.code.length:Int)+1)=some r'→OkI 0 0 (lookR (RL++[r'])) (s.code.length:Int) r i):Em S s (mPut i s) r r':=by
 refine ⟨xt_put _ _,fun RL H ht hl=>⟨RL++[r'],List.prefix_append _ _,?_,?_⟩⟩
 ·have:=ht.put (i:=i) (r':=r') (ps:=[]) hl (fun q hq=>by cases hq) (by simp) (.inr (.pl (fun q hq he=>?_) h2 h3 h4 h5 (hi _ _ ht (look_next ht.len _))))
  ·rw [List.append_nil] at this;exact this
  ·rw [List.append_nil] at hq;have:=(ht.pb q hq).2;omega
 ·show (RL++[r'])[(s.code++[i]).length]? = some r'
  rw [List.length_append,List.length_singleton];exact last_of ht.len _
theorem em_mark2 {S:Nat} {s:CS} {i:In} {kind n:Int} {r r':Rl} (hi:∀ RL H,TyS S s RL H→lookR (RL++[r']) ((s.code.length:Int)+1)=some r'→OkO s.data (lookR (RL++[r'])) (s.pats++[⟨(s.code.length:Int),kind,n⟩]) (s.code.length:Int) r i):Em S s (mMark i kind n s) r r':=by
 refine ⟨xt_mark _ _ _ _,fun RL H ht hl=>⟨RL++[r'],List.prefix_append _ _,?_,?_⟩⟩
 ·exact ht.put (i:=i) (r':=r') (ps:=[⟨(s.code.length:Int),kind,n⟩]) hl (fun q hq=>by rw [List.mem_singleton.1 hq]) (by simp) (.inr (hi _ _ ht (look_next ht.len _)))
 ·show (RL++[r'])[(s.code++[i]).length]? = some r'
  rw [List.length_append,List.length_singleton];exact last_of ht.len _
theorem bo_top {S:Nat} {b:Int}:Rl.bo S b ≠ .top:=fun h=>by cases h
theorem bo_en1 {S:Nat} {b:Int}:∀ s,Rl.bo S b ≠ .en 1 s:=fun s h=>by cases h
theorem must_o {w:List UInt8} {s:CS} (h:(mMust w s).e=0):s.e=0∧mMust w s=mTail s∧s.toks≠[]:=by
 unfold mMust at h ⊢;split at h
 ·rename_i hs;rw [if_pos hs];exact ⟨h,rfl,sees_ne hs⟩
 ·exact absurd h (stop_e _ _ _ (by decide))
theorem name_o {s:CS} (h:(mName s).2.e=0):s.e=0∧mName s=(mText s,mTail s)∧s.toks≠[]:=by
 unfold mName at h ⊢;split at h
 ·rename_i hs;rw [if_pos hs];exact ⟨h,rfl,named_ne hs⟩
 ·exact absurd h (stop_e _ _ _ (by decide))
theorem tailN_lt {s:CS} (h:s.toks≠[]):(mTail s).toks.length+1=s.toks.length:=by
 obtain ⟨t,r,ht⟩:=List.exists_cons_of_ne_nil h;simp [mTail,ht]
structure ExO (S:Nat) (b:Int) (s:CS) (q:Int×CS):Prop where
 e:s.e=0
 r:q.1=8+(s.taken:Int)
 t:s.taken<8
 tk:q.2.taken=s.taken+1
 em:Em S s q.2 (.bo S b) (.bo S b)
 en:q.2.ents=s.ents
 da:q.2.data=s.data
 ln:q.2.toks.length≤s.toks.length
def ExT (n:Nat) (ex:CS→Int×CS):Prop:=∀ S b s,s.toks.length<n→s.taken≤8→(ex s).2.e=0→(b≠0→1≤s.taken)→ExO S b s (ex s)
theorem inner_o {pl:Int} {f:CS→Int×CS} {s:CS} (h:(mInner pl f s).2.e=0):(f { s with fac:=s.fac+1 }).2.e=0∧mInner pl f s=((f { s with fac:=s.fac+1 }).1,{ (f { s with fac:=s.fac+1 }).2 with fac:=(f { s with fac:=s.fac+1 }).2.fac-1 }):=by
 unfold mInner at h ⊢;split at h
 ·exact absurd h (stop_e _ _ _ (by decide))
 ·rename_i hf;rw [if_neg hf];exact ⟨h,rfl⟩
theorem inner_ex {n:Nat} {f:CS→Int×CS} (hf:ExT n f) {S:Nat} {b:Int} {pl:Int} {s:CS} (hn:s.toks.length<n) (h8:s.taken≤8) (h:(mInner pl f s).2.e=0) (hb:b≠0→1≤s.taken):ExO S b s (mInner pl f s):=by
 obtain ⟨h1,h2⟩:=inner_o h;have h3:=hf S b { s with fac:=s.fac+1 } hn h8 h1 hb;rw [h2];exact ⟨h3.e,h3.r,h3.t,h3.tk,((em_same rfl rfl rfl rfl rfl:Em S s { s with fac:=s.fac+1 } _ _).tr h3.em).tr (em_same rfl rfl rfl rfl rfl),h3.en,h3.da,h3.ln⟩
theorem num_reg {k:Nat} (h:k<8):numR (8+(k:Int)):=by unfold numR;omega
theorem num_ne8 {k:Nat} {b:Int} (hb:b≠0→1≤k):b=0∨(8+(k:Int))≠8:=by
 by_cases h:b=0
 ·exact .inl h
 ·have:=hb h;right;omega
theorem index_o {n:Nat} {ex:CS→Int×CS} (hx:ExT n ex) {S:Nat} {b:Int} {t:Th} {s:CS} (hn:s.toks.length≤n) (h8:s.taken≤8) (h:(mIndex ex t s).2.e=0) (hb:b≠0→1≤s.taken):∃ s2,ExO S b s (8+(s.taken:Int),s2)∧mIndex ex t s=(8+(s.taken:Int),mPut ⟨14,8+(s.taken:Int),0,0,t.size⟩ s2):=by
 unfold mIndex at h ⊢;dsimp only at h ⊢;by_cases h1:(mMust [91] s).e≠0
 ·rw [if_pos h1] at h;exact absurd h h1
 rw [if_neg h1] at h ⊢;obtain ⟨m1,m2,m3⟩:=must_o (Classical.not_not.1 h1);have hlt:=tailN_lt m3;have h2:(mMust [93] (mInner (mHere s) ex (mMust [91] s)).2).e=0:=h;obtain ⟨m4,m5,m6⟩:=must_o h2;rw [m2] at m4 m5 ⊢;have h3:=inner_ex hx (S:=S) (b:=b) (s:=mTail s) (by omega) h8 m4 hb;rw [m5];have hr:(mInner (mHere s) ex (mTail s)).1=8+(s.taken:Int):=h3.r;refine ⟨mTail (mInner (mHere s) ex (mTail s)).2,⟨m1,rfl,h3.t,h3.tk,((em_tail s).tr h3.em).tr (em_tail _),h3.en,h3.da,?_⟩,by rw [hr]⟩;have h4:=h3.ln;show (mInner (mHere s) ex (mTail s)).2.toks.tail.length≤_
 rw [List.length_tail];omega
theorem reg_o {pl:Int} {s:CS} (h:(mReg pl s).2.e=0):s.e=0∧mReg pl s=(8+(s.taken:Int),{ s with taken:=s.taken+1 })∧s.taken≠8:=by
 unfold mReg at h ⊢;split at h
 ·exact absurd h (stop_e _ _ _ (by decide))
 ·rename_i h8;rw [if_neg h8];unfold mTake at h ⊢;rw [if_neg h8] at h ⊢;exact ⟨h,rfl,h8⟩
theorem em_load {S:Nat} {b:Int} {s:CS} {t:Th} {r:Int} (ht:∀ RL H,TyS S s RL H→EntOk S s.data RL t) (hk:t.kind≠1∧t.kind≠3∧t.kind≠4) (hr:numR r) (hb:b=0∨r≠8):Em S s (mLoad t r s) (.bo S b) (.bo S b):=by
 unfold mLoad;by_cases h2:t.kind=2
 ·rw [if_pos h2];refine em_put2 bo_top bo_en1 (show (12:Int)≠17 by decide) (show (12:Int)≠18 by decide) (fun RL H hT hl=>?_);have:=(ht RL H hT).o h2;exact .ldl hr hb this.1 (by omega) hl
 ·rw [if_neg h2];refine em_mark2 (fun RL H hT hl=>?_);have:=(ht RL H hT).g (by have:=(ht RL H hT).k;omega);exact .ldg (List.mem_append_right _ List.mem_cons_self) hr hb this.1 this.2 hl
theorem em_store {S:Nat} {b:Int} {s:CS} {t:Th} {r:Int} (ht:∀ RL H,TyS S s RL H→EntOk S s.data RL t) (hk:t.kind≠1∧t.kind≠3∧t.kind≠4) (hr:valR r):Em S s (mStore t r s) (.bo S b) (.bo S b):=by
 unfold mStore;by_cases h2:t.kind=2
 ·rw [if_pos h2];refine em_put2 bo_top bo_en1 (show (13:Int)≠17 by decide) (show (13:Int)≠18 by decide) (fun RL H hT hl=>?_);have:=(ht RL H hT).o h2;exact .stl hr this.1 (by omega) hl
 ·rw [if_neg h2];refine em_mark2 (fun RL H hT hl=>?_);have:=(ht RL H hT).g (by have:=(ht RL H hT).k;omega);exact .stg (List.mem_append_right _ List.mem_cons_self) hr this.1 this.2 hl
theorem load_eq (t:Th) (r:Int) (s:CS):(mLoad t r s).ents=s.ents∧(mLoad t r s).data=s.data∧(mLoad t r s).taken=s.taken∧(mLoad t r s).toks=s.toks∧(mLoad t r s).e=s.e:=by
 unfold mLoad;split <;> exact ⟨rfl,rfl,rfl,rfl,rfl⟩
theorem store_eq (t:Th) (r:Int) (s:CS):(mStore t r s).ents=s.ents∧(mStore t r s).data=s.data∧(mStore t r s).taken=s.taken∧(mStore t r s).toks=s.toks∧(mStore t r s).e=s.e:=by
 unfold mStore;split <;> exact ⟨rfl,rfl,rfl,rfl,rfl⟩
theorem value_o {n:Nat} {ex:CS→Int×CS} (hx:ExT n ex) {S:Nat} {b:Int} {s:CS} (hn:s.toks.length<n+1) (h8:s.taken≤8) (h:(mValue ex s).2.e=0) (hb:b≠0→1≤s.taken):ExO S b s (mValue ex s):=by
 unfold mValue at h ⊢;dsimp only at h ⊢;by_cases h1:(mName s).2.e≠0
 ·rw [if_pos h1] at h;exact absurd h h1
 rw [if_neg h1] at h ⊢;obtain ⟨m1,m2,m3⟩:=name_o (Classical.not_not.1 h1);have hlt:=tailN_lt m3;rw [m2] at h ⊢;dsimp only at h ⊢;by_cases h2:(mLook (mText s) (mHere s) (mTail s)).2.e≠0
 ·rw [if_pos h2] at h;exact absurd h h2
 rw [if_neg h2] at h ⊢;obtain ⟨l1,l2,e,le1,le2⟩:=look_ent (Classical.not_not.1 h2);rw [l2] at h ⊢;generalize (mLook (mText s) (mHere s) (mTail s)).1=t at *;by_cases h3:t.kind=3∨t.kind=4
 ·rw [if_pos h3] at h;exact absurd h (stop_e _ _ _ (by decide))
 rw [if_neg h3] at h ⊢
 have hent:∀ s':CS,s'.ents=s.ents→s'.data=s.data→∀ RL H,TyS S s' RL H→EntOk S s'.data RL t:=fun s' h1 h2 RL H hT=>by
  rw [← le2];exact hT.ent e (by rw [h1];exact le1)
 by_cases h4:t.kind=1
 ·rw [if_pos h4] at h ⊢;obtain ⟨s2,g1,g2⟩:=index_o hx (S:=S) (b:=b) (t:=t) (s:=mTail s) (by omega) h8 h hb;rw [g2];dsimp only;refine ⟨m1,rfl,g1.t,g1.tk,((em_tail s).tr g1.em).tr (Em.tr (s1:=mPut ⟨14,8+((mTail s).taken:Int),0,0,t.size⟩ s2) (r1:=.ck S b (8+((mTail s).taken:Int)) t.size) ?_ ?_),g1.en,g1.da,by have h9:s2.toks.length≤(mTail s).toks.length:=g1.ln;show s2.toks.length≤_;omega⟩
  ·exact em_put bo_top bo_en1 (show (14:Int)≠17 by decide) (show (14:Int)≠18 by decide) (fun rl hl=>.chkv (num_reg g1.t) hl)
  ·refine em_mark2 (fun RL H hT hl=>?_);have:=(hent (mPut ⟨14,8+((mTail s).taken:Int),0,0,t.size⟩ s2) g1.en g1.da RL H hT).l h4;exact .ldx (List.mem_append_right _ List.mem_cons_self) (num_reg g1.t) (num_ne8 hb) (num_reg g1.t) this.1 this.2.2 hl
 ·rw [if_neg h4] at h ⊢
  have he:(mReg (mHere s) (mTail s)).2.e=0:=by
   have:=(load_eq t (mReg (mHere s) (mTail s)).1 (mReg (mHere s) (mTail s)).2).2.2.2.2;rw [← this];exact h
  obtain ⟨g1,g2,g3⟩:=reg_o he;rw [g2] at h ⊢;dsimp only at h ⊢;obtain ⟨q1,q2,q3,q4,q5⟩:=load_eq t (8+((mTail s).taken:Int)) { mTail s with taken:=(mTail s).taken+1 };have h9:s.taken≠8:=g3;refine ⟨m1,rfl,by omega,q3,((em_tail s).tr (em_same rfl rfl rfl rfl rfl:Em S (mTail s) { mTail s with taken:=(mTail s).taken+1 } _ _)).tr (em_load (fun RL H hT=>hent { mTail s with taken:=(mTail s).taken+1 } rfl rfl RL H hT) (by omega) (num_reg (k:=s.taken) (by omega)) (num_ne8 (k:=s.taken) hb)),q1,q2,?_⟩;show (mLoad t _ _).toks.length≤_
  rw [q4];show (mTail s).toks.length≤_
  omega
theorem factorB_o {n:Nat} {ex fa:CS→Int×CS} (hx:ExT n ex) (hf:ExT n fa):ExT (n+1) (mFactorB ex fa):=by
 intro S b s hn h8 h hb;unfold mFactorB at h ⊢;dsimp only at h ⊢;by_cases h1:mSees [40] s=true
 ·rw [if_pos h1] at h ⊢;have hlt:=tailN_lt (sees_ne h1);have h2:(mMust [41] (mInner (mHere s) ex (mTail s)).2).e=0:=h;obtain ⟨m1,m2,m3⟩:=must_o h2;have h3:=inner_ex hx (S:=S) (b:=b) (s:=mTail s) (by omega) h8 m1 hb;rw [m2];refine ⟨h3.e,h3.r,h3.t,h3.tk,((em_tail s).tr h3.em).tr (em_tail _),h3.en,h3.da,?_⟩;have h4:=h3.ln;show (mInner (mHere s) ex (mTail s)).2.toks.tail.length≤_
  rw [List.length_tail];omega
 rw [if_neg h1] at h ⊢;by_cases h2:mSees [45] s=true
 ·rw [if_pos h2] at h ⊢;have hlt:=tailN_lt (sees_ne h2);have h3:=inner_ex hf (S:=S) (b:=b) (s:=mTail s) (by omega) h8 h hb;have hr:(mInner (mHere s) fa (mTail s)).1=8+(s.taken:Int):=h3.r;have ht:s.taken<8:=h3.t;refine ⟨h3.e,h3.r,h3.t,h3.tk,((em_tail s).tr h3.em).tr (em_put bo_top bo_en1 (show (2:Int)≠17 by decide) (show (2:Int)≠18 by decide) (fun rl hl=>?_)),h3.en,h3.da,?_⟩
  ·rw [hr];exact .alu (by decide) (num_reg ht) (num_ne8 hb) (.inl rfl) (.inr (num_reg ht)) hl
  ·have h4:(mInner (mHere s) fa (mTail s)).2.toks.length≤(mTail s).toks.length:=h3.ln;show (mInner (mHere s) fa (mTail s)).2.toks.length≤_
   omega
 rw [if_neg h2] at h ⊢;by_cases h2:mSees [110,111,116] s=true
 ·rw [if_pos h2] at h ⊢;have hlt:=tailN_lt (sees_ne h2);have h3:=inner_ex hf (S:=S) (b:=b) (s:=mTail s) (by omega) h8 h hb;have hr:(mInner (mHere s) fa (mTail s)).1=8+(s.taken:Int):=h3.r;have ht:s.taken<8:=h3.t;refine ⟨h3.e,h3.r,h3.t,h3.tk,((em_tail s).tr h3.em).tr (em_put bo_top bo_en1 (show (9:Int)≠17 by decide) (show (9:Int)≠18 by decide) (fun rl hl=>?_)),h3.en,h3.da,?_⟩
  ·rw [hr];exact .alu (by decide) (num_reg ht) (num_ne8 hb) (.inr (num_reg ht)) (.inl rfl) hl
  ·have h4:(mInner (mHere s) fa (mTail s)).2.toks.length≤(mTail s).toks.length:=h3.ln;show (mInner (mHere s) fa (mTail s)).2.toks.length≤_
   omega
 rw [if_neg h2] at h ⊢;by_cases h3:mNamed s=true
 ·rw [if_pos h3] at h ⊢;exact value_o hx hn h8 h hb
 rw [if_neg h3] at h ⊢;by_cases h4:(mNumber s).2.e≠0
 ·rw [if_pos h4] at h;exact absurd h h4
 rw [if_neg h4] at h ⊢;obtain ⟨_,n1,n2⟩:=ex_num h4
 have h5:s.e=0:=by
  rw [n2] at h4;exact Classical.not_not.1 h4
 have hlt:=tailN_lt (num_ne n1);rw [n2] at h ⊢;dsimp only at h ⊢;have he:(mReg (mHere s) (mTail s)).2.e=0:=h;obtain ⟨g1,g2,g3⟩:=reg_o he;rw [g2];dsimp only;have h9:s.taken≠8:=g3;refine ⟨h5,rfl,by omega,rfl,((em_tail s).tr (em_same rfl rfl rfl rfl rfl:Em S (mTail s) { mTail s with taken:=(mTail s).taken+1 } _ _)).tr (em_put bo_top bo_en1 (show (10:Int)≠17 by decide) (show (10:Int)≠18 by decide) (fun rl hl=>.num (num_reg (k:=s.taken) (by omega)) (num_ne8 (k:=s.taken) hb) hl)),rfl,rfl,?_⟩;show (mTail s).toks.length≤_
 omega
structure JoO (S:Nat) (b:Int) (s s':CS):Prop where
 e:s.e=0
 tk:s'.taken=s.taken
 em:Em S s s' (.bo S b) (.bo S b)
 en:s'.ents=s.ents
 da:s'.data=s.data
 ln:s'.toks.length≤s.toks.length
def OpsOk (ops:List (List UInt8×Int)):Prop:=∀ w op,opsOf ops w=some op→1≤op∧op≤9
theorem join_e {part:CS→Int×CS} {ops:List (List UInt8×Int)} {n:Int} (m:Nat) (s:CS) (h:(mJoin part ops n m s).e=0):s.e=0:=by
 refine Classical.byContradiction fun h0=>?_
 cases m with
 | zero=>exact h0 h
 | succ m=>
  unfold mJoin at h;rw [if_neg (fun h1=>h0 h1.1)] at h;exact h0 h
theorem join_o {n:Nat} {part:CS→Int×CS} (hp:ExT n part) {ops:List (List UInt8×Int)} (ho:OpsOk ops) {S:Nat} {b:Int} {k:Nat} (hk:k<8) (hb:b≠0→1≤k):∀ (m:Nat) (s:CS),s.toks.length≤n→s.taken=k+1→(mJoin part ops (8+(k:Int)) m s).e=0→JoO S b s (mJoin part ops (8+(k:Int)) m s)
 | 0,s,_,_,h=>⟨h,rfl,em_rf,rfl,rfl,Nat.le_refl _⟩
 | m+1,s,hn,htk,h=>by
  unfold mJoin at h ⊢;by_cases h1:s.e=0∧s.toks≠[]
  ·rw [if_pos h1] at h ⊢;cases hop:opsOf ops (mText s) with
   | none=>
    rw [hop] at h;exact ⟨h,rfl,em_rf,rfl,rfl,Nat.le_refl _⟩
   | some op=>
    rw [hop] at h;dsimp only at h ⊢;by_cases h2:mSees (mText s) s=true
    ·rw [if_pos h2] at h ⊢;have hlt:=tailN_lt h1.2;have ho2:=ho _ _ hop;have hpe:∀ s':CS,(mJoin part ops (8+(k:Int)) m s').e=0→s'.taken=k+1→s'.toks.length≤n→JoO S b s' (mJoin part ops (8+(k:Int)) m s'):=fun s' h t l=>join_o hp ho hk hb m s' l t h
     have hpe0:(part (mTail s)).2.e=0:=join_e m (mGive (mPut ⟨op,8+(k:Int),8+(k:Int),(part (mTail s)).1,0⟩ (part (mTail s)).2)) h;have h3:=hp S b (mTail s) (by omega) (by show s.taken≤8;omega) hpe0 (fun _=>by show 1≤s.taken;omega)
     have hr:(part (mTail s)).1=8+((k+1:Nat):Int):=by
      rw [h3.r];show 8+(s.taken:Int)=_
      rw [htk]
     have ht8:k+1<8:=by have:s.taken<8:=h3.t;omega
     have h4:=hpe _ h (by
      show (part (mTail s)).2.taken-1=k+1
      rw [h3.tk];show s.taken+1-1=k+1
      omega) (by
      have:(part (mTail s)).2.toks.length≤(mTail s).toks.length:=h3.ln;show (part (mTail s)).2.toks.length≤n
      omega)
     refine ⟨h1.1,?_,(((em_tail s).tr h3.em).tr ((em_put bo_top bo_en1 (show op≠17 by omega) (show op≠18 by omega) (fun rl hl=>?_)).tr (em_give _))).tr h4.em,?_,?_,?_⟩
     ·rw [h4.tk];show (part (mTail s)).2.taken-1=s.taken
      rw [h3.tk];show s.taken+1-1=s.taken
      omega
     ·rw [hr];exact .alu ho2 (num_reg hk) (num_ne8 hb) (.inr (num_reg hk)) (.inr (num_reg ht8)) hl
     ·rw [h4.en];exact h3.en
     ·rw [h4.da];exact h3.da
     ·have h5:=h4.ln;have h6:(part (mTail s)).2.toks.length≤(mTail s).toks.length:=h3.ln;have h7:(mGive (mPut ⟨op,8+(k:Int),8+(k:Int),(part (mTail s)).1,0⟩ (part (mTail s)).2)).toks.length=(part (mTail s)).2.toks.length:=rfl;omega
    ·rw [if_neg h2] at h ⊢;exact ⟨h,rfl,em_rf,rfl,rfl,Nat.le_refl _⟩
  ·rw [if_neg h1] at h ⊢;exact ⟨h,rfl,em_rf,rfl,rfl,Nat.le_refl _⟩
theorem joined_o {n:Nat} {part:CS→Int×CS} (hp:ExT n part) {ops:List (List UInt8×Int)} (ho:OpsOk ops):ExT n (mJoined part ops):=by
 intro S b s hn h8 h hb;unfold mJoined at h ⊢;dsimp only at h;have h1:=hp S b s hn h8 (join_e _ _ h) hb;have hr:=h1.r;rw [hr] at h ⊢;have h2:=join_o hp ho (S:=S) (b:=b) h1.t hb _ _ (by have:=h1.ln;omega) h1.tk h;exact ⟨h1.e,rfl,h1.t,by rw [h2.tk];exact h1.tk,h1.em.tr h2.em,h2.en.trans h1.en,h2.da.trans h1.da,Nat.le_trans h2.ln h1.ln⟩
theorem termO_ok:OpsOk termO:=by
 intro w op h;unfold termO opsOf at h;split at h
 ·cases h;decide
 ·unfold opsOf at h;split at h
  ·cases h;decide
  ·unfold opsOf at h;split at h
   ·cases h;decide
   ·unfold opsOf at h;split at h
    ·cases h;decide
    ·cases h
theorem sumO_ok:OpsOk sumO:=by
 intro w op h;unfold sumO opsOf at h;split at h
 ·cases h;decide
 ·unfold opsOf at h;split at h
  ·cases h;decide
  ·unfold opsOf at h;split at h
   ·cases h;decide
   ·cases h
theorem sum_o {n:Nat} {fa:CS→Int×CS} (hf:ExT n fa):ExT n (mSum fa):=joined_o (joined_o hf termO_ok) sumO_ok
theorem cmp_o {n:Nat} {fa:CS→Int×CS} (hf:ExT n fa) {S:Nat} {b:Int} {k:Nat} (hk:k<8) (hb:b≠0→1≤k) {w:List UInt8} {s:CS} (hn:s.toks.length≤n) (hne:s.toks≠[]) (htk:s.taken=k+1) (h0:s.e=0) (h:(mCmp fa (8+(k:Int)) w s).e=0):JoO S b s (mCmp fa (8+(k:Int)) w s):=by
 have hlt:=tailN_lt hne;unfold mCmp at h ⊢;dsimp only at h ⊢
 have he:(mSum fa (mTail s)).2.e=0:=by
  revert h
  split <;> split <;> exact id
 have h3:=sum_o hf S b (mTail s) (by omega) (by show s.taken≤8;omega) he (fun _=>by show 1≤s.taken;omega)
 have hr:(mSum fa (mTail s)).1=8+((k+1:Nat):Int):=by
  rw [h3.r];show 8+(s.taken:Int)=_
  rw [htk]
 have ht8:k+1<8:=by have:s.taken<8:=h3.t;omega
 have htk2:(mSum fa (mTail s)).2.taken=s.taken+1:=h3.tk;have hln:(mSum fa (mTail s)).2.toks.length≤(mTail s).toks.length:=h3.ln;rw [hr];have hop:∀ op:Int,op=(if w=[61]∨w=[60,62] then 9 else 8)→1≤op∧op≤9:=fun op h=>by rw [h];split <;> decide
 generalize (if w=[61]∨w=[60,62] then (9:Int) else 8)=op at *;have hop:=hop op rfl
 have hmid:∀ s2,s2=(if w=[62]∨w=[60,61] then mPut ⟨op,8+(k:Int),8+((k+1:Nat):Int),8+(k:Int),0⟩ (mSum fa (mTail s)).2 else mPut ⟨op,8+(k:Int),8+(k:Int),8+((k+1:Nat):Int),0⟩ (mSum fa (mTail s)).2)→Em S (mSum fa (mTail s)).2 s2 (.bo S b) (.bo S b)∧s2.taken=(mSum fa (mTail s)).2.taken∧s2.ents=(mSum fa (mTail s)).2.ents∧s2.data=(mSum fa (mTail s)).2.data∧s2.toks=(mSum fa (mTail s)).2.toks:=by
  intro s2 h2;subst h2;split
  ·exact ⟨em_put bo_top bo_en1 (show op≠17 by omega) (show op≠18 by omega) (fun rl hl=>.alu hop (num_reg hk) (num_ne8 hb) (.inr (num_reg ht8)) (.inr (num_reg hk)) hl),rfl,rfl,rfl,rfl⟩
  ·exact ⟨em_put bo_top bo_en1 (show op≠17 by omega) (show op≠18 by omega) (fun rl hl=>.alu hop (num_reg hk) (num_ne8 hb) (.inr (num_reg hk)) (.inr (num_reg ht8)) hl),rfl,rfl,rfl,rfl⟩
 obtain ⟨q1,q2,q3,q4,q5⟩:=hmid _ rfl;generalize (if w=[62]∨w=[60,61] then mPut ⟨op,8+(k:Int),8+((k+1:Nat):Int),8+(k:Int),0⟩ (mSum fa (mTail s)).2 else mPut ⟨op,8+(k:Int),8+(k:Int),8+((k+1:Nat):Int),0⟩ (mSum fa (mTail s)).2)=s2 at *;have hin:Em S s s2 (.bo S b) (.bo S b):=((em_tail s).tr h3.em).tr q1;split
 ·refine ⟨h0,?_,(hin.tr (em_put bo_top bo_en1 (show (9:Int)≠17 by decide) (show (9:Int)≠18 by decide) (fun rl hl=>.alu (by decide) (num_reg hk) (num_ne8 hb) (.inr (num_reg hk)) (.inl rfl) hl))).tr (em_give _),?_,?_,?_⟩
  ·show s2.taken-1=s.taken
   rw [q2,htk2];omega
  ·show s2.ents=_
   rw [q3];exact h3.en
  ·show s2.data=_
   rw [q4];exact h3.da
  ·show s2.toks.length≤_
   rw [q5];omega
 ·refine ⟨h0,?_,hin.tr (em_give _),?_,?_,?_⟩
  ·show s2.taken-1=s.taken
   rw [q2,htk2];omega
  ·show s2.ents=_
   rw [q3];exact h3.en
  ·show s2.data=_
   rw [q4];exact h3.da
  ·show s2.toks.length≤_
   rw [q5];omega
theorem cmps_o {n:Nat} {fa:CS→Int×CS} (hf:ExT n fa) {S:Nat} {b:Int} {k:Nat} (hk:k<8) (hb:b≠0→1≤k):∀ (l:List (List UInt8)) (s:CS),s.toks.length≤n→s.taken=k+1→s.e=0→(mCmps fa (8+(k:Int)) l s).e=0→JoO S b s (mCmps fa (8+(k:Int)) l s)
 | [],s,_,_,h0,h=>⟨h0,rfl,em_rf,rfl,rfl,Nat.le_refl _⟩
 | w::l,s,hn,htk,h0,h=>by
  unfold mCmps at h ⊢;by_cases h1:s.e=0∧mSees w s=true
  ·rw [if_pos h1] at h ⊢;exact cmp_o hf hk hb hn (sees_ne h1.2) htk h0 h
  ·rw [if_neg h1] at h ⊢;exact cmps_o hf hk hb l s hn htk h0 h
theorem cmps_e {fa:CS→Int×CS} {n:Int}:∀ (l:List (List UInt8)) (s:CS),(mCmps fa n l s).e=0→s.e=0
 | [],s,h=>h
 | w::l,s,h=>by
  unfold mCmps at h;by_cases h1:s.e=0∧mSees w s=true
  ·exact h1.1
  ·rw [if_neg h1] at h;exact cmps_e l s h
theorem exprB_o {n:Nat} {fa:CS→Int×CS} (hf:ExT n fa):ExT n (mExprB fa):=by
 intro S b s hn h8 h hb;unfold mExprB at h ⊢;dsimp only at h;have h0:=cmps_e _ _ h;have h1:=sum_o hf S b s hn h8 h0 hb;rw [h1.r] at h ⊢;have h2:=cmps_o hf (S:=S) (b:=b) h1.t hb cmpL _ (by have:=h1.ln;omega) h1.tk h0 h;exact ⟨h1.e,rfl,h1.t,by rw [h2.tk];exact h1.tk,h1.em.tr h2.em,h2.en.trans h1.en,h2.da.trans h1.da,Nat.le_trans h2.ln h1.ln⟩
theorem mfactor_o:∀ n,ExT n (mFactor n)
 | 0=>fun S b s hn=>by omega
 | n+1=>factorB_o (exprB_o (mfactor_o n)) (mfactor_o n)
theorem expr_o (N:Nat):ExT N (mExpr N):=exprB_o (mfactor_o N)
def Er (f:CS→Int×CS):Prop:=∀ s,(f s).2.e=0→s.e=0
theorem er_inner {f:CS→Int×CS} (hf:Er f) {pl:Int} {s:CS} (h:(mInner pl f s).2.e=0):s.e=0:=hf { s with fac:=s.fac+1 } (inner_o h).1
theorem er_value {ex:CS→Int×CS} (hx:Er ex) {s:CS} (h:(mValue ex s).2.e=0):s.e=0:=by
 unfold mValue at h;dsimp only at h;by_cases h1:(mName s).2.e≠0
 ·rw [if_pos h1] at h;exact absurd h h1
 ·exact (name_o (Classical.not_not.1 h1)).1
theorem er_factorB {ex fa:CS→Int×CS} (hx:Er ex) (hf:Er fa):Er (mFactorB ex fa):=by
 intro s h;unfold mFactorB at h;dsimp only at h;split at h
 ·exact er_inner (s:=mTail s) hx (must_o (w:=[41]) h).1
 ·split at h
  ·exact er_inner (s:=mTail s) hf h
  ·split at h
   ·exact er_inner (s:=mTail s) hf h
   ·split at h
    ·exact er_value hx h
    ·split at h
     ·rename_i h4;exact absurd h h4
     ·rename_i h4;obtain ⟨_,_,n2⟩:=ex_num h4;rw [n2] at h4;exact Classical.not_not.1 h4
theorem er_joined {part:CS→Int×CS} (hp:Er part) (ops:List (List UInt8×Int)):Er (mJoined part ops):=fun s h=>hp s (join_e _ _ h)
theorem er_sum {fa:CS→Int×CS} (hf:Er fa):Er (mSum fa):=er_joined (er_joined hf termO) sumO
theorem er_exprB {fa:CS→Int×CS} (hf:Er fa):Er (mExprB fa):=fun s h=>er_sum hf s (cmps_e _ _ h)
theorem er_factor:∀ n,Er (mFactor n)
 | 0=>fun s h=>h
 | n+1=>er_factorB (er_exprB (er_factor n)) (er_factor n)
theorem er_expr (N:Nat):Er (mExpr N):=er_exprB (er_factor N)
structure StO (S:Nat) (s s':CS):Prop where
 e:s.e=0
 tk:s'.taken=0
 em:Em S s s' (.bo S 0) (.bo S 0)
 en:s'.ents=s.ents
 da:s'.data=s.data
 ln:s'.toks.length≤s.toks.length
def StT (N:Nat) (f:CS→CS):Prop:=∀ S s,s.toks.length<N→s.taken=0→(f s).e=0→StO S s (f s)
theorem tail_le (s:CS):(mTail s).toks.length≤s.toks.length:=by show s.toks.tail.length≤_;rw [List.length_tail];omega
theorem ent_at {S:Nat} {s s':CS} {e:ByteArray×Th} {t:Th} (he:e∈s.ents) (ht:e.2=t) (h1:s'.ents=s.ents) (h2:s'.data=s.data):∀ RL H,TyS S s' RL H→EntOk S s'.data RL t:=fun RL H hT=>by
 rw [← ht];exact hT.ent e (by rw [h1];exact he)
theorem assign_o {N:Nat} {S:Nat} {t:Th} {s:CS} {e:ByteArray×Th} (he:e∈s.ents) (ht:e.2=t) (hk:t.kind≠3∧t.kind≠4) (hn:s.toks.length<N) (htk:s.taken=0) (h:(mAssign N t s).e=0):StO S s (mAssign N t s):=by
 unfold mAssign at h ⊢;by_cases h1:t.kind=1
 ·rw [if_pos h1] at h ⊢;dsimp only at h ⊢;have hx:=expr_o N;have he2:(mExpr N (mMust [58,61] (mIndex (mExpr N) t s).2)).2.e=0:=h
  have hme:(mMust [58,61] (mIndex (mExpr N) t s).2).e=0:=by
   exact er_expr N _ he2
  obtain ⟨m1,m2,m3⟩:=must_o hme;obtain ⟨s2,g1,g2⟩:=index_o hx (S:=S) (b:=0) (t:=t) (s:=s) (by omega) (by omega) m1 (fun h=>absurd rfl h);rw [g2] at he2 m2 ⊢;dsimp only at he2 m2 ⊢;rw [m2] at he2 ⊢;rw [htk] at he2 g1 ⊢;have htk2:s2.taken=0+1:=by have:=g1.tk;rw [htk] at this;exact this
  have hln2:s2.toks.length≤s.toks.length:=g1.ln
  have hx2:=hx S t.size (mTail (mPut ⟨14,8+((0:Nat):Int),0,0,t.size⟩ s2)) (by
   have:=tail_le (mPut ⟨14,8+((0:Nat):Int),0,0,t.size⟩ s2);have h7:(mPut ⟨14,8+((0:Nat):Int),0,0,t.size⟩ s2).toks=s2.toks:=rfl;rw [h7] at this;omega) (by show s2.taken≤8;omega) he2 (fun _=>by show 1≤s2.taken;omega)
  have hr:(mExpr N (mTail (mPut ⟨14,8+((0:Nat):Int),0,0,t.size⟩ s2))).1=8+((1:Nat):Int):=by
   rw [hx2.r];show 8+(s2.taken:Int)=_
   rw [htk2]
  rw [hr];refine ⟨g1.e,?_,((g1.em.tr ((em_put bo_top bo_en1 (show (14:Int)≠17 by decide) (show (14:Int)≠18 by decide) (fun rl hl=>.chka hl)).tr (em_tail _))).tr hx2.em).tr ((em_mark2 (fun RL H hT hl=>?_)).tr ((em_give _).tr (em_give _))),?_,?_,?_⟩
  ·show (mExpr N _).2.taken-1-1=0
   rw [hx2.tk];show s2.taken+1-1-1=0
   omega
  ·have:=(ent_at (S:=S) (s':=(mExpr N (mTail (mPut ⟨14,8+((0:Nat):Int),0,0,t.size⟩ s2))).2) he ht (hx2.en.trans g1.en) (hx2.da.trans g1.da) RL H hT).l h1;exact .stx (List.mem_append_right _ List.mem_cons_self) (.inr (num_reg (k:=1) (by decide))) this.1 this.2.2 (by omega) hl
  ·exact hx2.en.trans g1.en
  ·exact hx2.da.trans g1.da
  ·have h8:=hx2.ln;have h9:=tail_le (mPut ⟨14,8+((0:Nat):Int),0,0,t.size⟩ s2);have h7:(mPut ⟨14,8+((0:Nat):Int),0,0,t.size⟩ s2).toks=s2.toks:=rfl;rw [h7] at h9;show (mExpr N _).2.toks.length≤_
   omega
 ·rw [if_neg h1] at h ⊢;dsimp only at h ⊢
  have he2:(mExpr N (mMust [58,61] s)).2.e=0:=by
   have:=(store_eq t (mExpr N (mMust [58,61] s)).1 (mExpr N (mMust [58,61] s)).2).2.2.2.2;rw [← this];exact h
  have hme:(mMust [58,61] s).e=0:=er_expr N _ he2;obtain ⟨m1,m2,m3⟩:=must_o hme;rw [m2] at he2 ⊢;have htl:=tail_le s;have hx2:=expr_o N S 0 (mTail s) (by omega) (by show s.taken≤8;omega) he2 (fun h=>absurd rfl h);obtain ⟨q1,q2,q3,q4,q5⟩:=store_eq t (mExpr N (mTail s)).1 (mExpr N (mTail s)).2
  have hr:(mExpr N (mTail s)).1=8+((0:Nat):Int):=by
   rw [hx2.r];show 8+(s.taken:Int)=_
   rw [htk]
  refine ⟨m1,?_,((em_tail s).tr hx2.em).tr ((em_store (ent_at he ht hx2.en hx2.da) (by omega) (by rw [hr];exact .inr (num_reg (by decide)))).tr (em_give _)),?_,?_,?_⟩
  ·show (mStore t _ _).taken-1=0
   rw [q3,hx2.tk];show s.taken+1-1=0
   omega
  ·show (mStore t _ _).ents=_
   rw [q1];exact hx2.en
  ·show (mStore t _ _).data=_
   rw [q2];exact hx2.da
  ·show (mStore t _ _).toks.length≤_
   rw [q4];have:=hx2.ln;omega
end Go.Proofs.YtkolmklfgbimoaaGreatDoor.Cm

/- Texts of the proof, in their order: Be3, Rw1, Be4, SxT, Dr2. -/
import Derived.Test.YtkolmklfgbimoaaGreatDoorM13
import Derived.Test.YtkolmklfgbimoaaGreatDoorM3
import Derived.Test.YtkolmklfgbimoaaGreatDoorM2
import Derived.HandedShaped
import Derived.SizedLaws
import Derived.Test.YtkolmklfgbimoaaGreatDoorRows
import Derived.Test.YtkolmklfgbimoaaGreatDoorM4
import Derived.Stop.LaidErr
import Derived.Lib.LaidTab
import Derived.MakeChecks
import Derived.LaidLaws
set_option linter.unusedVariables false
set_option linter.unusedSimpArgs false
set_option maxHeartbeats 16000000
set_option maxRecDepth 100000
namespace Go.Proofs.YtkolmklfgbimoaaGreatDoor
open Go Go.Sx Go.Sx.Chunk
theorem w32_ofK {a:Int} (h:inK .i32 a):w32 a=a:=by
 have hr : -2147483648≤a∧a≤2147483647:=by simpa [inK,IntKind.min,IntKind.max,IntKind.signed,IntKind.bits] using h
 exact w32_id hr
theorem wd_rowK {w0:World} {M:Nat→Prop} {b e sz m:Nat} {cs:List Value} {R:List Chunk} {G:World→Prop} (h:Wd w0 M (row (some ⟨b,0,none⟩) m e sz m cs::R) G) (hl:cs.length=m*sz) (hm:m≤maxLen):Wd w0 M (blk b cs e::R) G:=fun w hw=>h w (hw.row_of_blk hl hm)
theorem ech20_law (ao:Option Addr) (cap:Nat) (l:List Int) (hc:l.length≤cap) (hm:cap≤maxLen) (h:∀ z∈l,inK .i32 z):FnC (α:=Unit) Tryz.prog 9 [.slice ao l.length cap] [] [rng ao (l.flatMap i32V),Cm.spaceV] (fun _=>.bool true) (fun _=>[]) (fun _=>True):=by
 have haw:=awake20C;have hl:l.length≤maxLen:=Nat.le_trans hc hm;by_cases h40:40<l.length
 ·skip
  refine fn_intro Tryz.func9 Tryz.ntmps9 rfl rfl rfl (fun w0=>?_);refine rrs ?_;refine cl (haw) ?_;intro _ _;refine rrs ?_;exact en () trivial
 obtain ⟨n,u,hs,hn1,hn0⟩:=ecc_run l (by omega) (fun v hv=>w32_ofK (h v hv));obtain ⟨b,hb,f1,f2,f3,f4,hrun,n2,u2,hpip⟩:=bFact_runs be_fact be_main hs hn1 hn0 (by decide)
 have hbc:∀ V,V=strC [Sc.bs beT]→∀ ta tc,FnC Tryz.prog 12 [.slice ta 1 tc,.int .i64 20] [] [rng ta V,Cm.spaceV] (fun z=>buV (buildF [Sc.bs beT] 20) z) (fun z=>buH (buildF [Sc.bs beT] 20) z) (fun _=>True):=by
  intro V hV ta tc;subst hV;exact buildC ta tc [Sc.bs beT] 20 (by decide) (fun s hs=>by rw [List.mem_singleton.1 hs,Sc.bs_size];decide)
 rw [hb] at hbc;clear hb hs;unfold buV buH at hbc;obtain ⟨bic,bdata,bcode,bmem,bn,bpl,be⟩:=b;dsimp only at *;subst f1 f2 f3 f4
 have hr1:∀ ia1 ic1 ca1 cc1 ia ic,FnC Tryz.prog 18 [.agg #[.slice ia1 bic.length ic1,.int .i64 bdata,.slice ca1 bcode.length cc1,.int .i64 20],.slice ia (l.length+1) ic,.int .i64 5000] [] [rng ia1 (insC bic),rng ia (i64C ((l.length:Int)::l))] (fun z=>resG (1,n,l,u) z) (fun z=>resH (1,n,l,u) z) (fun _=>True):=fun ia1 ic1 ca1 cc1 ia ic=>by
  have h:=brunC ⟨ia1,ic1,bic,bdata,ca1,cc1,bcode,20⟩ ia ic ((l.length:Int)::l) 5000 (by decide) (by simp;omega);rw [hrun] at h;exact h
 have hr2:∀ ia1 ic1 ca1 cc1 ia ic,FnC Tryz.prog 22 [.agg #[.slice ia1 bic.length ic1,.int .i64 bdata,.slice ca1 bcode.length cc1,.int .i64 20],.slice ia (l.length+1) ic,.int .i64 9000] [] [rng ca1 (insC bcode),rng ia (i64C ((l.length:Int)::l))] (fun z=>resG (1,n2,l,u2) z) (fun z=>resH (1,n2,l,u2) z) (fun _=>True):=fun ia1 ic1 ca1 cc1 ia ic=>by
  have h:=bpipC ⟨ia1,ic1,bic,bdata,ca1,cc1,bcode,20⟩ ia ic ((l.length:Int)::l) 9000 (by decide) (by simp;omega);rw [hpip] at h;exact h
 clear hrun hpip;unfold resG resH at *
 have hll:(l.flatMap i32V).length=l.length:=by
  have h:=flat_len (cells:=i32V) (sz:=1) (fun _=>rfl) l;omega
 have hget:∀ k,k<l.length→∃ v,(l.flatMap i32V)[(k:Int).toNat*1]? = some (.int .i32 v)∧l[k]? = some v ∧ -2147483648≤v∧v≤2147483647:=fun k hk=>by
  obtain ⟨v,he⟩:=some_at hk;have hr : -2147483648≤v∧v≤2147483647:=by simpa [inK,IntKind.min,IntKind.max,IntKind.signed,IntKind.bits] using h v (List.mem_of_getElem? he)
  have h:=flat_at (cells:=i32V) (sz:=1) (fun _=>rfl) he (show 0<1 by decide);exact ⟨v,h,he,hr.1,hr.2⟩
 clear h;refine fn_intro Tryz.func9 Tryz.ntmps9 rfl rfl rfl (fun w0=>?_);refine rrs ?_;intro b1 _;refine rr ?_;refine wd_rowK (m:=1) (sz:=1) ?_ rfl (by unfold maxLen;omega);refine hv [row (some ⟨b1,0,none⟩) 1 3 1 1 (i64C ((l.length:Int)::l.take 0)),rng ao (l.flatMap i32V),Cm.spaceV] ?_;refine lo [0,21,22] (fun z:Nat×Option Addr×Nat=>[(3,.slice z.2.1 (z.1+1) z.2.2),(23,.int .i64 (z.1:Int))]) (fun z=>[(0,row z.2.1 z.2.2 3 1 (z.1+1) (i64C ((l.length:Int)::l.take z.1)))]) (fun z=>z.1≤l.length) (fun z=>l.length-z.1) (0,some ⟨b1,0,none⟩,1) (Nat.zero_le _) ?_;rintro ⟨k,ia,ic⟩ hk K1 hK1;dsimp only at hk ⊢;by_cases hlt:k<l.length
 ·obtain ⟨v,hget,he,hr1,hr2⟩:=hget k hlt
  have e1:i64C ((l.length:Int)::l.take (k+1))=i64C ((l.length:Int)::l.take k)++[Value.int .i64 v]:=by
   unfold i64C;rw [List.take_add_one,he];simp
  refine w_use (fun w hw=>(hw.pick 1 rfl).rng_some (by omega)) ?_;rintro ⟨g1,rfl⟩;refine rr ?_;intro b2 _;refine rr ?_;rintro ⟨pa,pc⟩ ⟨ph,_⟩;refine rr ?_;rw [← e1];exact ro hK1 (k+1,pa,pc) (by dsimp only;omega)
 obtain rfl:k=l.length:=by omega
 rw [List.take_length];refine rr ?_;intro b2 _;refine rr ?_;refine cl (hbc _ (by kernel_rfl) _ _) ?_;intro ⟨⟨ia1,ic1⟩,⟨ca1,cc1⟩⟩ _;refine rrs ?_;intro b3 _;refine rr ?_;refine hv [blk b3 [.slice ia1 bic.length ic1,.int .i64 bdata,.slice ca1 bcode.length cc1,.int .i64 20] 28,row ia1 ic1 105 5 bic.length (insC bic),row ca1 cc1 105 5 bcode.length (insC bcode),row ia ic 3 1 (l.length+1) (i64C ((l.length:Int)::l)),rng ao (l.flatMap i32V),Cm.spaceV] ?_;refine w_cutJ (γ:=(Nat×Nat)×(Option Addr×Nat×Option Addr×Nat)×(Option Addr×Nat×Option Addr×Nat)) (fun g=>[(10,.pointer (some ⟨g.1.1,0,none⟩)),(11,.pointer (some ⟨g.1.2,0,none⟩)),(0,.slice ao l.length cap),(9,.int .i64 0)]) (fun g=>[blk g.1.1 [.int .i64 1,.int .i64 n,.slice g.2.1.1 l.length g.2.1.2.1,.slice g.2.1.2.2.1 u.length g.2.1.2.2.2] 54,row g.2.1.1 g.2.1.2.1 3 1 l.length (i64C l),row g.2.1.2.2.1 g.2.1.2.2.2 3 1 u.length (i64C u),blk g.1.2 [.int .i64 1,.int .i64 n2,.slice g.2.2.1 l.length g.2.2.2.1,.slice g.2.2.2.2.1 u2.length g.2.2.2.2.2] 54,row g.2.2.1 g.2.2.2.1 3 1 l.length (i64C l),row g.2.2.2.2.1 g.2.2.2.2.2 3 1 u2.length (i64C u2),rng ao (l.flatMap i32V),Cm.spaceV]) ?_ ?_
 rotate_left
 ·intro K hK;refine dr [0,1,3,4,99] [0,3] [0] ?_;refine rr ?_;refine th (i:=2) (j:=6) (k:=7) [99] [99] [99] ?_ ?_ ?_
  ·refine clp (hr1 _ _ _ _ _ _) ?_;intro z1 _;try simp only [Sx.ap1,Sx.ap2,Sx.ap3]
   refine th (i:=5) (j:=6) (k:=7) [99] [99] [99] ?_ ?_ ?_
   ·refine clp (hr2 _ _ _ _ _ _) ?_;intro z2 _;try simp only [Sx.ap1,Sx.ap2,Sx.ap3]
    refine tw (i:=6) (j:=7) [7,8,9] [6,8,9] ?_ ?_
    ·refine rr ?_;intro b7 _;refine rr ?_;intro b8 _;refine rr ?_;exact w_joinJ hK ((b7,b8),z1,z2) (by (repeat (first | exact Has.nil | (apply Has.cons;focus ((repeat (first | exact pick_here | apply pick_there));done)) | apply Has.nrow | apply Has.gen0))) (by repeat (first | exact env_nil | (apply env_cons;exact rfl)))
    ·refine rr ?_;intro b8 _;refine rr ?_;intro b7 _;refine rr ?_;exact w_joinJ hK ((b7,b8),z1,z2) (by (repeat (first | exact Has.nil | (apply Has.cons;focus ((repeat (first | exact pick_here | apply pick_there));done)) | apply Has.nrow | apply Has.gen0))) (by repeat (first | exact env_nil | (apply env_cons;exact rfl)))
   ·refine rr ?_;intro b7 _;refine tw (i:=5) (j:=7) [7,8,9] [5,8,9] ?_ ?_
    ·refine clp (hr2 _ _ _ _ _ _) ?_;intro z2 _;refine rrs ?_;intro b8 _;refine rr ?_;exact w_joinJ hK ((b7,b8),z1,z2) (by (repeat (first | exact Has.nil | (apply Has.cons;focus ((repeat (first | exact pick_here | apply pick_there));done)) | apply Has.nrow | apply Has.gen0))) (by repeat (first | exact env_nil | (apply env_cons;exact rfl)))
    ·refine rr ?_;intro b8 _;refine rr ?_;refine cld (hr2 _ _ _ _ _ _) ?_;intro z2 _;refine rrs ?_;exact w_joinJ hK ((b7,b8),z1,z2) (by (repeat (first | exact Has.nil | (apply Has.cons;focus ((repeat (first | exact pick_here | apply pick_there));done)) | apply Has.nrow | apply Has.gen0))) (by repeat (first | exact env_nil | (apply env_cons;exact rfl)))
   ·refine rr ?_;intro b8 _;refine tw (i:=5) (j:=6) [6,8,9] [5,8,9] ?_ ?_
    ·refine clp (hr2 _ _ _ _ _ _) ?_;intro z2 _;refine rrs ?_;intro b7 _;refine rr ?_;exact w_joinJ hK ((b7,b8),z1,z2) (by (repeat (first | exact Has.nil | (apply Has.cons;focus ((repeat (first | exact pick_here | apply pick_there));done)) | apply Has.nrow | apply Has.gen0))) (by repeat (first | exact env_nil | (apply env_cons;exact rfl)))
    ·refine rr ?_;intro b7 _;refine rr ?_;refine cld (hr2 _ _ _ _ _ _) ?_;intro z2 _;refine rrs ?_;exact w_joinJ hK ((b7,b8),z1,z2) (by (repeat (first | exact Has.nil | (apply Has.cons;focus ((repeat (first | exact pick_here | apply pick_there));done)) | apply Has.nrow | apply Has.gen0))) (by repeat (first | exact env_nil | (apply env_cons;exact rfl)))
  ·refine rr ?_;intro b7 _;refine tw (i:=2) (j:=7) [99] [2,5,8,9] ?_ ?_
   ·refine clp (hr1 _ _ _ _ _ _) ?_;intro z1 _;try simp only [Sx.ap1,Sx.ap2,Sx.ap3]
    refine tw (i:=5) (j:=7) [7,8,9] [5,8,9] ?_ ?_
    ·refine clp (hr2 _ _ _ _ _ _) ?_;intro z2 _;refine rrs ?_;intro b8 _;refine rr ?_;exact w_joinJ hK ((b7,b8),z1,z2) (by (repeat (first | exact Has.nil | (apply Has.cons;focus ((repeat (first | exact pick_here | apply pick_there));done)) | apply Has.nrow | apply Has.gen0))) (by repeat (first | exact env_nil | (apply env_cons;exact rfl)))
    ·refine rr ?_;intro b8 _;refine rr ?_;refine cld (hr2 _ _ _ _ _ _) ?_;intro z2 _;refine rrs ?_;exact w_joinJ hK ((b7,b8),z1,z2) (by (repeat (first | exact Has.nil | (apply Has.cons;focus ((repeat (first | exact pick_here | apply pick_there));done)) | apply Has.nrow | apply Has.gen0))) (by repeat (first | exact env_nil | (apply env_cons;exact rfl)))
   ·refine rr ?_;intro b8 _;refine rr ?_;refine cld (hr1 _ _ _ _ _ _) ?_;intro z1 _;refine rrs ?_;refine cld (hr2 _ _ _ _ _ _) ?_;intro z2 _;refine rrs ?_;exact w_joinJ hK ((b7,b8),z1,z2) (by (repeat (first | exact Has.nil | (apply Has.cons;focus ((repeat (first | exact pick_here | apply pick_there));done)) | apply Has.nrow | apply Has.gen0))) (by repeat (first | exact env_nil | (apply env_cons;exact rfl)))
  ·refine rr ?_;intro b8 _;refine tw (i:=2) (j:=6) [99] [2,5,8,9] ?_ ?_
   ·refine clp (hr1 _ _ _ _ _ _) ?_;intro z1 _;try simp only [Sx.ap1,Sx.ap2,Sx.ap3]
    refine tw (i:=5) (j:=6) [6,8,9] [5,8,9] ?_ ?_
    ·refine clp (hr2 _ _ _ _ _ _) ?_;intro z2 _;refine rrs ?_;intro b7 _;refine rr ?_;exact w_joinJ hK ((b7,b8),z1,z2) (by (repeat (first | exact Has.nil | (apply Has.cons;focus ((repeat (first | exact pick_here | apply pick_there));done)) | apply Has.nrow | apply Has.gen0))) (by repeat (first | exact env_nil | (apply env_cons;exact rfl)))
    ·refine rr ?_;intro b7 _;refine rr ?_;refine cld (hr2 _ _ _ _ _ _) ?_;intro z2 _;refine rrs ?_;exact w_joinJ hK ((b7,b8),z1,z2) (by (repeat (first | exact Has.nil | (apply Has.cons;focus ((repeat (first | exact pick_here | apply pick_there));done)) | apply Has.nrow | apply Has.gen0))) (by repeat (first | exact env_nil | (apply env_cons;exact rfl)))
   ·refine rr ?_;intro b7 _;refine rr ?_;refine cld (hr1 _ _ _ _ _ _) ?_;intro z1 _;refine rrs ?_;refine cld (hr2 _ _ _ _ _ _) ?_;intro z2 _;refine rrs ?_;exact w_joinJ hK ((b7,b8),z1,z2) (by (repeat (first | exact Has.nil | (apply Has.cons;focus ((repeat (first | exact pick_here | apply pick_there));done)) | apply Has.nrow | apply Has.gen0))) (by repeat (first | exact env_nil | (apply env_cons;exact rfl)))
 ·rintro ⟨⟨b7,b8⟩,⟨y1,y2,y3,y4⟩,⟨x1,x2,x3,x4⟩⟩;dsimp only;refine rr ?_;refine lo [10,11,74,75] (fun k:Nat=>[(76,.int .i64 (k:Int))]) (fun k=>[]) (fun k=>k≤l.length) (fun k=>l.length-k) 0 (Nat.zero_le _) ?_;intro k hk K2 hK2;dsimp only at hk ⊢;by_cases hlt2:k<l.length
  ·obtain ⟨v,hgv,he,hr1,hr2⟩:=hget k hlt2;have hgo:(i64C l)[0+(k:Int).toNat*1]? = some (.int .i64 v):=by rw [show 0+(k:Int).toNat*1=k by omega];exact i64C_get he
   refine w_use (fun w hw=>(hw.pick 1 rfl).row_some (by omega)) ?_;rintro ⟨g1,rfl⟩;refine w_use (fun w hw=>(hw.pick 4 rfl).row_some (by omega)) ?_;rintro ⟨g2,rfl⟩;refine w_use (fun w hw=>(hw.pick 6 rfl).rng_some (by omega)) ?_;rintro ⟨g3,rfl⟩;have hvv:(v != v)=false:=by simp
   refine rr ?_;exact ro hK2 (k+1) (by omega)
  ·obtain rfl:k=l.length:=by omega
   refine rr ?_;refine cl (haw) ?_;intro _ _;refine rrs ?_;exact en () trivial
theorem tmod_c (n:Int) {m:Int} (hm:0<m):(0≤n∧n.tmod m=n % m)∨(n<0∧n.tmod m = -((-n) % m)):=by
 by_cases h:0≤n
 ·exact .inl ⟨h,Int.tmod_eq_emod_of_nonneg h⟩
 ·refine .inr ⟨by omega,?_⟩;rw [← Int.tmod_eq_emod_of_nonneg (by omega:(0:Int) ≤ -n),Int.neg_tmod,Int.neg_neg]
theorem w32_eq (n:Int):w32 n=(n+2147483648) % 4294967296-2147483648:=by
 unfold w32 IntKind.wrap;simp [IntKind.bits,IntKind.signed]
 (try split) <;> omega
theorem rwrapC (n:Int):FnC (α:=Unit) Tryz.prog 26 [.int .i64 n] [] [] (fun _=>.int .i64 (w32 n)) (fun _=>[]) (fun _=>True):=by
 have h:=tmod_c n (m:=4294967296) (by omega);have hw:=w32_eq n;rcases h with ⟨hn,ht⟩ | ⟨hn,ht⟩
 ·have h0:¬ n % 4294967296<0:=by omega
  by_cases h1:2147483647<n % 4294967296
  ·have e:w32 n=n % 4294967296-4294967296:=by omega
   refine fn_intro Tryz.func26 Tryz.ntmps26 rfl rfl rfl (fun w0=>?_);refine rrs ?_;exact en () trivial (hv:=by rw [e];rfl)
  ·have e:w32 n=n % 4294967296:=by omega
   refine fn_intro Tryz.func26 Tryz.ntmps26 rfl rfl rfl (fun w0=>?_);refine rrs ?_;exact en () trivial (hv:=by rw [e];rfl)
 obtain ⟨t,htt⟩:∃ t,n.tmod 4294967296=t:=⟨_,rfl⟩
 have hb : -4294967296<t∧t≤0:=by omega
 by_cases h0:t<0
 ·by_cases h1:2147483647<t+4294967296
  ·have e:w32 n=t+4294967296-4294967296:=by omega
   refine fn_intro Tryz.func26 Tryz.ntmps26 rfl rfl rfl (fun w0=>?_);refine rrs ?_;rw [htt];refine rr ?_;exact en () trivial (hv:=by rw [e];rfl)
  ·have e:w32 n=t+4294967296:=by omega
   refine fn_intro Tryz.func26 Tryz.ntmps26 rfl rfl rfl (fun w0=>?_);refine rrs ?_;rw [htt];refine rr ?_;exact en () trivial (hv:=by rw [e];rfl)
 ·have h1:¬ 2147483647<t:=by omega
  have e:w32 n=t:=by omega
  refine fn_intro Tryz.func26 Tryz.ntmps26 rfl rfl rfl (fun w0=>?_);refine rrs ?_;rw [htt];refine rr ?_;exact en () trivial (hv:=by rw [e];rfl)
def accL:Int→List Int→Int
 | a,[]=>a
 | a,v::l=>accL (w32 (a+v)) l
theorem accL_snoc:∀ (l:List Int) (a v:Int),accL a (l++[v])=w32 (accL a l+v)
 | [],_,_=>rfl
 | u::l,a,v=>accL_snoc l (w32 (a+u)) v
theorem sumL_snoc:∀ (l:List Int) (a v:Int),sumL a (l++[v])=sumL a l++[w32 (accL a l+v)]
 | [],_,_=>rfl
 | u::l,a,v=>by
  show w32 (a+u)::sumL (w32 (a+u)) (l++[v])=w32 (a+u)::(sumL (w32 (a+u)) l++[w32 (accL (w32 (a+u)) l+v)])
  rw [sumL_snoc l]
theorem accL_in:∀ (l:List Int) (a:Int),-2147483648≤a∧a≤2147483647 → -2147483648≤accL a l∧accL a l≤2147483647
 | [],_,h=>h
 | u::l,a,_=>accL_in l _ (w32_in _)
theorem mod20_law (ao:Option Addr) (cap:Nat) (l:List Int) (hc:l.length≤cap) (hm:cap≤maxLen) (h:∀ z∈l,inK .i32 z):FnC (α:=Unit) Tryz.prog 10 [.slice ao l.length cap] [] [rng ao (l.flatMap i32V),Cm.spaceV] (fun _=>.bool true) (fun _=>[]) (fun _=>True):=by
 have haw:=awake20C;have hl:l.length≤maxLen:=Nat.le_trans hc hm;by_cases h40:30<l.length
 ·skip
  refine fn_intro Tryz.func10 Tryz.ntmps10 rfl rfl rfl (fun w0=>?_);refine rrs ?_;refine cl (haw) ?_;intro _ _;refine rrs ?_;exact en () trivial
 obtain ⟨n,u,hs,hn1,hn0⟩:=mdd_run l (by omega) (fun v hv=>w32_ofK (h v hv));obtain ⟨b,hb,f1,f2,f3,f4,hrun,n2,u2,hpip⟩:=bFact_runs bm_fact bm_main hs hn1 hn0 (by decide)
 have hbc:∀ V,V=strC [Sc.bs bmT1,Sc.bs bmT2]→∀ ta tc,FnC Tryz.prog 12 [.slice ta 2 tc,.int .i64 20] [] [rng ta V,Cm.spaceV] (fun z=>buV (buildF [Sc.bs bmT1,Sc.bs bmT2] 20) z) (fun z=>buH (buildF [Sc.bs bmT1,Sc.bs bmT2] 20) z) (fun _=>True):=by
  intro V hV ta tc;subst hV
  exact buildC ta tc [Sc.bs bmT1,Sc.bs bmT2] 20 (by decide) (fun s hs=>by
   simp only [List.mem_cons,List.not_mem_nil,or_false] at hs;rcases hs with rfl | rfl <;> (rw [Sc.bs_size];decide))
 rw [hb] at hbc;clear hb hs;unfold buV buH at hbc;obtain ⟨bic,bdata,bcode,bmem,bn,bpl,be⟩:=b;dsimp only at *;subst f1 f2 f3 f4
 have hr1:∀ ia1 ic1 ca1 cc1 ia ic,FnC Tryz.prog 18 [.agg #[.slice ia1 bic.length ic1,.int .i64 bdata,.slice ca1 bcode.length cc1,.int .i64 20],.slice ia (l.length+1) ic,.int .i64 5000] [] [rng ia1 (insC bic),rng ia (i64C ((l.length:Int)::l))] (fun z=>resG (1,n,(sumL 0 l),u) z) (fun z=>resH (1,n,(sumL 0 l),u) z) (fun _=>True):=fun ia1 ic1 ca1 cc1 ia ic=>by
  have h:=brunC ⟨ia1,ic1,bic,bdata,ca1,cc1,bcode,20⟩ ia ic ((l.length:Int)::l) 5000 (by decide) (by simp;omega);rw [hrun] at h;exact h
 have hr2:∀ ia1 ic1 ca1 cc1 ia ic,FnC Tryz.prog 22 [.agg #[.slice ia1 bic.length ic1,.int .i64 bdata,.slice ca1 bcode.length cc1,.int .i64 20],.slice ia (l.length+1) ic,.int .i64 9000] [] [rng ca1 (insC bcode),rng ia (i64C ((l.length:Int)::l))] (fun z=>resG (1,n2,(sumL 0 l),u2) z) (fun z=>resH (1,n2,(sumL 0 l),u2) z) (fun _=>True):=fun ia1 ic1 ca1 cc1 ia ic=>by
  have h:=bpipC ⟨ia1,ic1,bic,bdata,ca1,cc1,bcode,20⟩ ia ic ((l.length:Int)::l) 9000 (by decide) (by simp;omega);rw [hpip] at h;exact h
 clear hrun hpip;have hW:(sumL 0 l).length=l.length:=sumL_len l 0;unfold resG resH at *;simp only [hW] at hr1 hr2
 have hll:(l.flatMap i32V).length=l.length:=by
  have h:=flat_len (cells:=i32V) (sz:=1) (fun _=>rfl) l;omega
 have hget:∀ k,k<l.length→∃ v,(l.flatMap i32V)[(k:Int).toNat*1]? = some (.int .i32 v)∧l[k]? = some v ∧ -2147483648≤v∧v≤2147483647:=fun k hk=>by
  obtain ⟨v,he⟩:=some_at hk;have hr : -2147483648≤v∧v≤2147483647:=by simpa [inK,IntKind.min,IntKind.max,IntKind.signed,IntKind.bits] using h v (List.mem_of_getElem? he)
  have h:=flat_at (cells:=i32V) (sz:=1) (fun _=>rfl) he (show 0<1 by decide);exact ⟨v,h,he,hr.1,hr.2⟩
 clear h;refine fn_intro Tryz.func10 Tryz.ntmps10 rfl rfl rfl (fun w0=>?_);refine rrs ?_;intro b1 _;refine rr ?_;refine wd_rowK (m:=1) (sz:=1) ?_ rfl (by unfold maxLen;omega);refine hv [row (some ⟨b1,0,none⟩) 1 3 1 1 (i64C ((l.length:Int)::l.take 0)),row none 0 3 1 0 (i64C (sumL 0 (l.take 0))),rng ao (l.flatMap i32V),Cm.spaceV] ?_;refine lo [0,23,24] (fun z:Nat×Option Addr×Nat×Option Addr×Nat=>[(3,.slice z.2.1 (z.1+1) z.2.2.1),(4,.int .i64 (accL 0 (l.take z.1))),(5,.slice z.2.2.2.1 z.1 z.2.2.2.2),(25,.int .i64 (z.1:Int))]) (fun z=>[(0,row z.2.1 z.2.2.1 3 1 (z.1+1) (i64C ((l.length:Int)::l.take z.1))),(1,row z.2.2.2.1 z.2.2.2.2 3 1 z.1 (i64C (sumL 0 (l.take z.1))))]) (fun z=>z.1≤l.length) (fun z=>l.length-z.1) (0,some ⟨b1,0,none⟩,1,none,0) (Nat.zero_le _) ?_;rintro ⟨k,ia,ic,wa,wc⟩ hk K1 hK1;dsimp only at hk ⊢;by_cases hlt:k<l.length
 ·obtain ⟨v,hget,he,hr1,hr2⟩:=hget k hlt;have ht:l.take (k+1)=l.take k++[v]:=by rw [List.take_add_one,he];rfl
  have e1:i64C ((l.length:Int)::l.take (k+1))=i64C ((l.length:Int)::l.take k)++[Value.int .i64 v]:=by
   unfold i64C;rw [ht];simp
  have e2:i64C (sumL 0 (l.take (k+1)))=i64C (sumL 0 (l.take k))++[Value.int .i64 (w32 (accL 0 (l.take k)+v))]:=by
   unfold i64C;rw [ht,sumL_snoc];simp
  have e3:accL 0 (l.take (k+1))=w32 (accL 0 (l.take k)+v):=by rw [ht,accL_snoc]
  obtain ⟨hq1,hq2⟩:=accL_in (l.take k) 0 (by omega);refine w_use (fun w hw=>(hw.pick 2 rfl).rng_some (by omega)) ?_;rintro ⟨g1,rfl⟩;have hwr:=rwrapC (accL 0 (l.take k)+v);generalize accL 0 (l.take k)=aa at *;refine rr ?_;intro b2 _;refine rr ?_;rintro ⟨pa,pc⟩ ⟨ph,_⟩;refine rr ?_;refine cl (hwr) ?_;intro _ _;refine rrs ?_;intro b3 _;refine rr ?_;rintro ⟨qa,qc⟩ ⟨qh,_⟩;refine rr ?_;rw [← e1,← e2,← e3];exact ro hK1 (k+1,pa,pc,qa,qc) (by dsimp only;omega)
 obtain rfl:k=l.length:=by omega
 rw [List.take_length];refine rr ?_;intro b2 _;refine rr ?_;refine cl (hbc _ (by kernel_rfl) _ _) ?_;intro ⟨⟨ia1,ic1⟩,⟨ca1,cc1⟩⟩ _;refine rrs ?_;intro b5 _;refine rr ?_;generalize sumL 0 l=W at *;refine hv [blk b5 [.slice ia1 bic.length ic1,.int .i64 bdata,.slice ca1 bcode.length cc1,.int .i64 20] 28,row ia1 ic1 105 5 bic.length (insC bic),row ca1 cc1 105 5 bcode.length (insC bcode),row ia ic 3 1 (l.length+1) (i64C ((l.length:Int)::l)),row wa wc 3 1 l.length (i64C W),rng ao (l.flatMap i32V),Cm.spaceV] ?_;refine w_cutJ (γ:=(Nat×Nat)×(Option Addr×Nat×Option Addr×Nat)×(Option Addr×Nat×Option Addr×Nat)) (fun g=>[(12,.pointer (some ⟨g.1.1,0,none⟩)),(13,.pointer (some ⟨g.1.2,0,none⟩)),(0,.slice ao l.length cap),(5,.slice wa l.length wc),(11,.int .i64 0)]) (fun g=>[blk g.1.1 [.int .i64 1,.int .i64 n,.slice g.2.1.1 l.length g.2.1.2.1,.slice g.2.1.2.2.1 u.length g.2.1.2.2.2] 54,row g.2.1.1 g.2.1.2.1 3 1 l.length (i64C W),row g.2.1.2.2.1 g.2.1.2.2.2 3 1 u.length (i64C u),blk g.1.2 [.int .i64 1,.int .i64 n2,.slice g.2.2.1 l.length g.2.2.2.1,.slice g.2.2.2.2.1 u2.length g.2.2.2.2.2] 54,row g.2.2.1 g.2.2.2.1 3 1 l.length (i64C W),row g.2.2.2.2.1 g.2.2.2.2.2 3 1 u2.length (i64C u2),row wa wc 3 1 l.length (i64C W),rng ao (l.flatMap i32V),Cm.spaceV]) ?_ ?_
 rotate_left
 ·intro K hK;refine dr [0,1,3,4,99] [0,3] [0] ?_;refine rr ?_;refine th (i:=2) (j:=6) (k:=7) [99] [99] [99] ?_ ?_ ?_
  ·refine clp (hr1 _ _ _ _ _ _) ?_;intro z1 _;try simp only [Sx.ap1,Sx.ap2,Sx.ap3]
   refine th (i:=5) (j:=6) (k:=7) [99] [99] [99] ?_ ?_ ?_
   ·refine clp (hr2 _ _ _ _ _ _) ?_;intro z2 _;try simp only [Sx.ap1,Sx.ap2,Sx.ap3]
    refine tw (i:=6) (j:=7) [7,8,9] [6,8,9] ?_ ?_
    ·refine rr ?_;intro b7 _;refine rr ?_;intro b8 _;refine rr ?_;exact w_joinJ hK ((b7,b8),z1,z2) (by (repeat (first | exact Has.nil | (apply Has.cons;focus ((repeat (first | exact pick_here | apply pick_there));done)) | apply Has.nrow | apply Has.gen0))) (by repeat (first | exact env_nil | (apply env_cons;exact rfl)))
    ·refine rr ?_;intro b8 _;refine rr ?_;intro b7 _;refine rr ?_;exact w_joinJ hK ((b7,b8),z1,z2) (by (repeat (first | exact Has.nil | (apply Has.cons;focus ((repeat (first | exact pick_here | apply pick_there));done)) | apply Has.nrow | apply Has.gen0))) (by repeat (first | exact env_nil | (apply env_cons;exact rfl)))
   ·refine rr ?_;intro b7 _;refine tw (i:=5) (j:=7) [7,8,9] [5,8,9] ?_ ?_
    ·refine clp (hr2 _ _ _ _ _ _) ?_;intro z2 _;refine rrs ?_;intro b8 _;refine rr ?_;exact w_joinJ hK ((b7,b8),z1,z2) (by (repeat (first | exact Has.nil | (apply Has.cons;focus ((repeat (first | exact pick_here | apply pick_there));done)) | apply Has.nrow | apply Has.gen0))) (by repeat (first | exact env_nil | (apply env_cons;exact rfl)))
    ·refine rr ?_;intro b8 _;refine rr ?_;refine cld (hr2 _ _ _ _ _ _) ?_;intro z2 _;refine rrs ?_;exact w_joinJ hK ((b7,b8),z1,z2) (by (repeat (first | exact Has.nil | (apply Has.cons;focus ((repeat (first | exact pick_here | apply pick_there));done)) | apply Has.nrow | apply Has.gen0))) (by repeat (first | exact env_nil | (apply env_cons;exact rfl)))
   ·refine rr ?_;intro b8 _;refine tw (i:=5) (j:=6) [6,8,9] [5,8,9] ?_ ?_
    ·refine clp (hr2 _ _ _ _ _ _) ?_;intro z2 _;refine rrs ?_;intro b7 _;refine rr ?_;exact w_joinJ hK ((b7,b8),z1,z2) (by (repeat (first | exact Has.nil | (apply Has.cons;focus ((repeat (first | exact pick_here | apply pick_there));done)) | apply Has.nrow | apply Has.gen0))) (by repeat (first | exact env_nil | (apply env_cons;exact rfl)))
    ·refine rr ?_;intro b7 _;refine rr ?_;refine cld (hr2 _ _ _ _ _ _) ?_;intro z2 _;refine rrs ?_;exact w_joinJ hK ((b7,b8),z1,z2) (by (repeat (first | exact Has.nil | (apply Has.cons;focus ((repeat (first | exact pick_here | apply pick_there));done)) | apply Has.nrow | apply Has.gen0))) (by repeat (first | exact env_nil | (apply env_cons;exact rfl)))
  ·refine rr ?_;intro b7 _;refine tw (i:=2) (j:=7) [99] [2,5,8,9] ?_ ?_
   ·refine clp (hr1 _ _ _ _ _ _) ?_;intro z1 _;try simp only [Sx.ap1,Sx.ap2,Sx.ap3]
    refine tw (i:=5) (j:=7) [7,8,9] [5,8,9] ?_ ?_
    ·refine clp (hr2 _ _ _ _ _ _) ?_;intro z2 _;refine rrs ?_;intro b8 _;refine rr ?_;exact w_joinJ hK ((b7,b8),z1,z2) (by (repeat (first | exact Has.nil | (apply Has.cons;focus ((repeat (first | exact pick_here | apply pick_there));done)) | apply Has.nrow | apply Has.gen0))) (by repeat (first | exact env_nil | (apply env_cons;exact rfl)))
    ·refine rr ?_;intro b8 _;refine rr ?_;refine cld (hr2 _ _ _ _ _ _) ?_;intro z2 _;refine rrs ?_;exact w_joinJ hK ((b7,b8),z1,z2) (by (repeat (first | exact Has.nil | (apply Has.cons;focus ((repeat (first | exact pick_here | apply pick_there));done)) | apply Has.nrow | apply Has.gen0))) (by repeat (first | exact env_nil | (apply env_cons;exact rfl)))
   ·refine rr ?_;intro b8 _;refine rr ?_;refine cld (hr1 _ _ _ _ _ _) ?_;intro z1 _;refine rrs ?_;refine cld (hr2 _ _ _ _ _ _) ?_;intro z2 _;refine rrs ?_;exact w_joinJ hK ((b7,b8),z1,z2) (by (repeat (first | exact Has.nil | (apply Has.cons;focus ((repeat (first | exact pick_here | apply pick_there));done)) | apply Has.nrow | apply Has.gen0))) (by repeat (first | exact env_nil | (apply env_cons;exact rfl)))
  ·refine rr ?_;intro b8 _;refine tw (i:=2) (j:=6) [99] [2,5,8,9] ?_ ?_
   ·refine clp (hr1 _ _ _ _ _ _) ?_;intro z1 _;try simp only [Sx.ap1,Sx.ap2,Sx.ap3]
    refine tw (i:=5) (j:=6) [6,8,9] [5,8,9] ?_ ?_
    ·refine clp (hr2 _ _ _ _ _ _) ?_;intro z2 _;refine rrs ?_;intro b7 _;refine rr ?_;exact w_joinJ hK ((b7,b8),z1,z2) (by (repeat (first | exact Has.nil | (apply Has.cons;focus ((repeat (first | exact pick_here | apply pick_there));done)) | apply Has.nrow | apply Has.gen0))) (by repeat (first | exact env_nil | (apply env_cons;exact rfl)))
    ·refine rr ?_;intro b7 _;refine rr ?_;refine cld (hr2 _ _ _ _ _ _) ?_;intro z2 _;refine rrs ?_;exact w_joinJ hK ((b7,b8),z1,z2) (by (repeat (first | exact Has.nil | (apply Has.cons;focus ((repeat (first | exact pick_here | apply pick_there));done)) | apply Has.nrow | apply Has.gen0))) (by repeat (first | exact env_nil | (apply env_cons;exact rfl)))
   ·refine rr ?_;intro b7 _;refine rr ?_;refine cld (hr1 _ _ _ _ _ _) ?_;intro z1 _;refine rrs ?_;refine cld (hr2 _ _ _ _ _ _) ?_;intro z2 _;refine rrs ?_;exact w_joinJ hK ((b7,b8),z1,z2) (by (repeat (first | exact Has.nil | (apply Has.cons;focus ((repeat (first | exact pick_here | apply pick_there));done)) | apply Has.nrow | apply Has.gen0))) (by repeat (first | exact env_nil | (apply env_cons;exact rfl)))
 ·rintro ⟨⟨b7,b8⟩,⟨y1,y2,y3,y4⟩,⟨x1,x2,x3,x4⟩⟩;dsimp only;refine rr ?_;refine lo [12,13,85,86] (fun k:Nat=>[(87,.int .i64 (k:Int))]) (fun k=>[]) (fun k=>k≤l.length) (fun k=>l.length-k) 0 (Nat.zero_le _) ?_;intro k hk K2 hK2;dsimp only at hk ⊢;by_cases hlt2:k<l.length
  ·obtain ⟨v,he⟩:=some_at (l:=W) (k:=k) (by omega);have hgo:(i64C W)[0+(k:Int).toNat*1]? = some (.int .i64 v):=by rw [show 0+(k:Int).toNat*1=k by omega];exact i64C_get he
   refine w_use (fun w hw=>(hw.pick 1 rfl).row_some (by omega)) ?_;rintro ⟨g1,rfl⟩;refine w_use (fun w hw=>(hw.pick 4 rfl).row_some (by omega)) ?_;rintro ⟨g2,rfl⟩;refine w_use (fun w hw=>(hw.pick 6 rfl).row_some (by omega)) ?_;rintro ⟨g3,rfl⟩;have hvv:(v != v)=false:=by simp
   refine rr ?_;exact ro hK2 (k+1) (by omega)
  ·obtain rfl:k=l.length:=by omega
   refine rr ?_;refine cl (haw) ?_;intro _ _;refine rrs ?_;exact en () trivial
end Go.Proofs.YtkolmklfgbimoaaGreatDoor
namespace Go.Sx
open Go Chunk
section
set_option maxRecDepth 512
section
variable {H:Type} {enc:TypeId×Value→H}
theorem handed_door {a:Assume} {C:Checked} {os:Os} {f:FuncId} {fn:Func} {s:ChangeSpec} {conds:List PathCond} {apart fresh handsOn again:Bool} {X:World→Array Value→Prop}
  (hX:∀ (w w':World) (args:Array Value),w.heap=w'.heap→X w args→X w' args)
  (own:ownKnob C.prog.godebug=none) (started:os.Started) (noInit:C.prog.inits.idxOf? f=none) (hfn:C.prog.funcs[f]? = some fn)
  (witness:∃ (w:World) (tape:Tape) (i:Input),w.os=os∧(w.forCall tape i).Shaped C.prog∧i.vars=[]∧Input.okWide C.prog (w.forCall tape i) .any w.heap.size f i ∧
   ((s.pre enc C.prog fn conds apart (w.forCall tape i).memory i.args∧X (w.forCall tape i).memory i.args)∧sizedMet enc C.prog fn (OpenSpec.ofChange s) apart (w.forCall tape i).memory i.args)∧a.holds C.prog (lone (Frame.enter C.prog f i.args .normal) [] (w.forCall tape i)))
  (contract:∀ (W:World) (base:Nat) (args:Array Value) (ds gs:List (DataW H)) (before:List MemPlace),
   (∀ (j:Nat) t v,fn.params[j]? = some t→args[j]? = some v→Value.okWide C.prog W .any base t v) →
   DataW.Whole enc C.prog fn.params.toList s.vars apart W args.toList ds gs before →
   conds.all (PathCond.test C.prog ⟨fn.params.toList,ds,s.plain.varTypes C.prog,gs⟩)=true →
   (DataW.weightsEach C.prog (fn.params.toList++s.plain.varTypes C.prog) (ds++gs)).all (· ≤ reachBytes)=true→X W args→W.ShapedOpen C.prog →
   a.holds C.prog (lone (Frame.enter C.prog f args .normal) [] W) →
   Calls C.prog f args W fun e W'=>∃ v,e = .returned v∧s.post enc C.prog fn apart fresh handsOn again W args v W') :
  ReturnsInHanded a C os f .any (fun w args=>(s.pre enc C.prog fn conds apart w args∧X w args)∧sizedMet enc C.prog fn (OpenSpec.ofChange s) apart w args) (s.post enc C.prog fn apart fresh handsOn again):=by
 refine returnsInHanded_of_calls own started noInit witness ?_;intro w tape i _ hsh _ hok hpre hholds;obtain ⟨_,_,_,fn',hfn',_,_,_,_,hval⟩:=hok;obtain rfl:fn'=fn:=Option.some.inj (hfn'.symm.trans hfn);obtain ⟨⟨⟨ds,gs,before,hw,hc⟩,hx⟩,hz⟩:=hpre;have hw':=DataW.Whole.of_heap (w':=w.forCall tape i) (by rfl) hw;refine (contract (w.forCall tape i) w.heap.size i.args ds gs before hval hw' hc (hz.weights hw) (hX _ _ _ (by rfl) hx) hsh hholds).mono fun e W' ⟨v,he,hp⟩=>?_
 subst he;exact ChangeSpec.post_blind hp
end
theorem var_cells {P:Program} {w:World} {n:String} {g:Nat} {cs:Array Value} (hg:P.globalNamed n=some g) (h:w.var? P n=some cs):∃ t z,w.heap[g]? = some (.cells cs t z):=by
 unfold World.var? at h;rw [hg] at h;simp only [Option.bind_some] at h;split at h
 ·rename_i c t z hc;simp only [Option.some.injEq] at h;subst h;exact ⟨_,_,hc⟩
 ·cases h
end
end Go.Sx
namespace Go.Proofs.YtkolmklfgbimoaaGreatDoor
open Go Go.Sx Go.Sx.Chunk
def laidL:List (String×DataW Unit):=[("unicode.White_Space",Rows.laid_unicode_White_Space),("strings.asciiSpace",Rows.laid_strings_asciiSpace)]
theorem spc_eq:(Rows.laid_strings_asciiSpace:DataW Unit)=Lib.tabData .u8 Lib.asciiSpaceTab:=by kernel_rfl
theorem glb_seen {w:World} {n:String} {g:Nat} {k:IntKind} {zs:List Int} (hg:Tryz.prog.globalNamed n=some g) (h:Lib.TabIs Tryz.prog w n k zs):SeenC w (glb g (zs.map fun z=>Value.int k z)):=by
 obtain ⟨t,z,hb⟩:=var_cells hg h
 exact ⟨rfl,⟨t,z,hb⟩,fun j hj=>by
  have:j=g:=hj;rw [this];exact (Array.getElem?_eq_some_iff.1 hb).1⟩
theorem laid_plain {W:World} (h:laidMetH Tryz.prog laidL W):laidMet Tryz.prog laidL W:=by
 rw [MakeChecks.laidMetH_plain _ _ _ (by kernel_rfl)] at h;exact h
theorem va_seen {W:World} (hL:laidMetH Tryz.prog laidL W) (hsh:W.ShapedOpen Tryz.prog):∃ m ev ev2:Unit,True∧True∧Seen W [Cm.spaceV]:=by
 have h0:=laid_plain hL;have h7:=laidMet.tail h0;rw [spc_eq] at h7;have t0:=Lib.tabIs_of_head (g:=1) (t:=271) (e:=5) (n:=256) (by kernel_rfl) (by kernel_rfl) (by kernel_rfl) (by kernel_rfl) (by kernel_rfl) (by kernel_rfl) h7;exact ⟨(),(),(),trivial,trivial,glb_seen (by kernel_rfl) t0,trivial⟩
end Go.Proofs.YtkolmklfgbimoaaGreatDoor

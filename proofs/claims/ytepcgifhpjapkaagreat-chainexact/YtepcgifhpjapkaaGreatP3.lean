/-
  Contracts of functions and plain laws. No condition.
-/
import Derived.Test.YtepcgifhpjapkaaGreatP2
import Derived.Test.YtepcgifhpjapkaaGreatP1
import Derived.Test.YtepcgifhpjapkaaGreatV4
import Derived.Test.YtepcgifhpjapkaaGreatV3
set_option linter.unusedSimpArgs false
set_option linter.unusedVariables false
set_option maxRecDepth 100000
set_option maxHeartbeats 8000000
namespace Go.Proofs.YtepcgifhpjapkaaGreat
open Go.V Go
open Tryz (prog)
section
structure RQ (s:List UInt8) where
  at_:Nat
  sh:Bool
  ha:at_<=s.length
def rbQ (T:TypeId) (s:List UInt8) (r:RQ s):Blk:=⟨T,true,[.pv (.str s),.int .i64 r.at_,.bool r.sh]⟩
theorem QyH (T:TypeId) (s:List UInt8) (r:RQ s):DV.nums.go (fun _=>false) (rbQ T s r).cells = true:=rfl
def QbV (s:List UInt8) (k:Nat) (r:RQ s):Int × RQ s:=
  if h:r.sh = true\/¬ r.at_ + k<=s.length then (0,⟨r.at_,true,r.ha⟩) else (IntKind.i64.wrap (Qlf s r.at_ k),⟨r.at_ + k,false,by omega⟩)
theorem QgC {s:List UInt8} {k:Nat} {r:RQ s} (h:r.sh = true\/¬ r.at_ + k<=s.length):QbV s k r = (0,⟨r.at_,true,r.ha⟩):=by unfold QbV; rw [dif_pos h]
theorem Ql7 {s:List UInt8} {k:Nat} {r:RQ s} (h:r.sh = false) (h':r.at_ + k<=s.length):QbV s k r = (IntKind.i64.wrap (Qlf s r.at_ k),⟨r.at_ + k,false,h'⟩):=by
  unfold QbV; rw [dif_neg (fun z=>z.elim (fun z=>by rw [h] at z; cases z) (fun z=>z h'))]
def RQ.lim {s:List UInt8} (r:RQ s):Nat:=r.at_ + (if r.sh then 4 else 0)
theorem RQ.lim_le {s:List UInt8} (r:RQ s):r.lim<=s.length + 4:=by have:=r.ha; unfold RQ.lim; split<;>omega
theorem QgD {s:List UInt8} {k:Nat} (hk:4<=k) (r:RQ s) (hr:r.sh = false):r.lim + 4<=(QbV s k r).2.lim:=by
  by_cases h:r.at_ + k<=s.length
  · rw [Ql7 hr h]; simp only [RQ.lim,hr]; simp; omega
  · rw [QgC (.inr h)]; simp only [RQ.lim,hr]; simp
theorem QfS {s:List UInt8} {k:Nat} (r:RQ s):r.lim<=(QbV s k r).2.lim:=by
  cases hr:r.sh
  · by_cases h:r.at_ + k<=s.length
    · rw [Ql7 hr h]; simp only [RQ.lim,hr]; simp
    · rw [QgC (.inr h)]; simp only [RQ.lim,hr]; simp
  · rw [QgC (.inl hr)]; simp only [RQ.lim,hr]; simp
theorem Qnf {s:List UInt8} {k:Nat} (r:RQ s) : -9223372036854775808<=(QbV s k r).1/\(QbV s k r).1<=9223372036854775807:=by
  unfold QbV
  split
  · dsimp only; omega
  · dsimp only; rw [IntKind.wrap_i64]; omega
def rdN (s:List UInt8):Nat->List Int->RQ s->List Int × RQ s
  | 0,out,r=>(out,r)
  | n + 1,out,r=>if r.sh = true then (out,r) else rdN s n (out ++ [(QbV s 8 r).1]) (QbV s 8 r).2
theorem QBv {s:List UInt8} {n:Nat} {out:List Int} {r:RQ s} (h:r.sh = true):rdN s n out r = (out,r):=by cases n; rfl; rw [rdN,if_pos h]
theorem QlR {s:List UInt8}:∀ (n:Nat) (out:List Int) (r:RQ s),4 * out.length<=r.lim->4 * (rdN s n out r).1.length<=(rdN s n out r).2.lim/\r.lim<=(rdN s n out r).2.lim
  | 0,_,_,h=>⟨h,Nat.le_refl _⟩
  | n + 1,out,r,h=>by
    unfold rdN
    split
    · exact ⟨h,Nat.le_refl _⟩
    · rename_i hr
      have h1:=QgD (k:=8) (by omega) r (by simpa using hr)
      have h2:=QlR n (out ++ [(QbV s 8 r).1]) (QbV s 8 r).2 (by simp; omega)
      exact ⟨h2.1,by omega⟩
def QfA (s:List UInt8) (k:Nat) (r:RQ s):List Int × RQ s:=rdN s (QbV s k r).1.toNat [] (QbV s k r).2
theorem Qky {s:List UInt8} {k:Nat} (r:RQ s):4 * (QfA s k r).1.length<=s.length + 4:=Nat.le_trans (QlR _ _ _ (Nat.zero_le _)).1 (RQ.lim_le _)
theorem Qkx {s:List UInt8} {k:Nat} (r:RQ s):r.lim<=(QfA s k r).2.lim:=Nat.le_trans (QfS r) (QlR _ _ _ (Nat.zero_le _)).2
def txS (s:List UInt8) (r:RQ s):Tx × RQ s:=
  let a:=QbV s 4 r
  let b:=QbV s 1 a.2
  let c:=QbV s 8 b.2
  let d:=QbV s 8 c.2
  let q:=QfA s 2 d.2
  let v:=QfA s 1 q.2
  (⟨a.1,b.1,c.1,d.1,q.1,v.1⟩,v.2)
theorem QmG {s:List UInt8} (r:RQ s) (hr:r.sh = false):r.lim + 4<=(txS s r).2.lim:=by
  have h1:=QgD (k:=4) (by omega) r hr
  refine Nat.le_trans h1 ?_
  unfold txS
  refine Nat.le_trans (QfS _) (Nat.le_trans (QfS _) (Nat.le_trans (QfS _) (Nat.le_trans (Qkx _) (Qkx _))))
theorem QA0 {s:List UInt8} (hs:s.length<=3000000) (r:RQ s):(txS s r).1.sm:=⟨by have:=Qky (k:=2) (QbV s 8 (QbV s 8 (QbV s 1 (QbV s 4 r).2).2).2).2; show (QfA s 2 _).1.length<=_; omega,by have:=Qky (k:=1) (QfA s 2 (QbV s 8 (QbV s 8 (QbV s 1 (QbV s 4 r).2).2).2).2).2; show (QfA s 1 _).1.length<=_; omega⟩
def rdT (s:List UInt8):Nat->List Tx->RQ s->List Tx × RQ s
  | 0,out,r=>(out,r)
  | n + 1,out,r=>if r.sh = true then (out,r) else rdT s n (out ++ [(txS s r).1]) (txS s r).2
theorem QBu {s:List UInt8} {n:Nat} {out:List Tx} {r:RQ s} (h:r.sh = true):rdT s n out r = (out,r):=by cases n; rfl; rw [rdT,if_pos h]
theorem Qrj {s:List UInt8}:∀ (n:Nat) (out:List Tx) (r:RQ s),4 * out.length<=r.lim->4 * (rdT s n out r).1.length<=(rdT s n out r).2.lim
  | 0,_,_,h=>h
  | n + 1,out,r,h=>by
    unfold rdT
    split
    · exact h
    · rename_i hr
      have h1:=QmG r (by simpa using hr)
      exact Qrj n (out ++ [(txS s r).1]) (txS s r).2 (by simp; omega)
theorem QwL {s:List UInt8} (hs:s.length<=3000000):∀ (n:Nat) (out:List Tx) (r:RQ s),(∀ t ∈ out,t.sm)->∀ t ∈ (rdT s n out r).1,t.sm
  | 0,_,_,h=>h
  | n + 1,out,r,h=>by
    unfold rdT
    split
    · exact h
    · refine QwL hs n _ _ fun t ht=>?_
      rcases List.mem_append.1 ht with h1 | h1
      · exact h t h1
      · rw [List.mem_singleton.1 h1]; exact QA0 hs r
def rq0 (s:List UInt8):RQ s:=⟨0,false,Nat.zero_le _⟩
def rdA (s:List UInt8):List Tx × RQ s:=rdT s (QbV s 2 (rq0 s)).1.toNat [] (QbV s 2 (rq0 s)).2
theorem QBw {s:List UInt8} (hs:s.length<=3000000):smL (rdA s).1:=
  ⟨by have:=Qrj (QbV s 2 (rq0 s)).1.toNat [] (QbV s 2 (rq0 s)).2 (Nat.zero_le _); have h2:=(rdA s).2.lim_le; unfold rdA at h2 |-; omega,QwL hs _ _ _ (by simp)⟩
def QB9 (s:List UInt8):List Tx × Int:=
  if (rdA s).2.sh = true then ([],5) else if ((rdA s).2.at_:Int) ≠ s.length then ([],4) else if QdF (rdA s).1 = false then ([],15) else ((rdA s).1,0)
abbrev RY (T:TypeId) (s:List UInt8) (v:DV) (q:RQ s):DV->Qa->Prop:=fun r h'=>∃ B',h' = [B']/\B'.live = true/\DV.nums.go (fun _=>false) B'.cells = true/\r.nums (fun _=>false) = true/\(r = v/\B' = rbQ T s q)
theorem QiA {g:FuncId} {args:List DV} {hp:Qa} {k:Nat} {T:TypeId} {s:List UInt8} {r q:RQ s} {v:DV} {K:DV->Qa->Prop} (h:VCalls prog g (args.map (DV.ren fun _=>0)) [rbQ T s r] (RY T s v q)) (hk:hp[k]? = some (rbQ T s r))
    (ha:DV.nums.go (fun i=>i == k) args = true) (hK:K v (hp.set k (rbQ T s q))):VCalls prog g args hp K:=
  (VCalls.ptr1 (R:=fun x B'=>x = v/\B' = rbQ T s q) hk rfl (QyH T s r) h ha).mono fun x h' ⟨B',e1,_,_,e2,e3⟩=>by subst e1 e2 e3; exact hK
attribute [local go_sem] rbQ
attribute [local go_sem] Qy7 QAD QA8 QA7 Qss QfD
@[go_sem] def lb (l:List Int):DV:=.pv (.sl (fz QN l))
theorem QdG (s:List UInt8) (hs:s.length<=3000000) (k:Nat) (h1:1<=k) (h8:k<=8) (r:RQ s):VCalls prog 258 [.ptr 0 0,.int .i64 k] [rbQ 350 s r] (RY 350 s (.int .i64 (QbV s k r).1) (QbV s k r).2):=by
  refine dd Tryz.func258 ?_
  have ha:=r.ha
  by_cases h:r.at_ + k<=s.length
  · have c1:=QhY s (by omega) r.at_ k ⟨h1,h8⟩ h
    cases hr:r.sh
    · rw [Ql7 hr h]
      (unfold Tryz.f258; refine rn trivial ?_)
      have F:=@hr
      refine rn F ?_
      repeat' (first
        | with_reducible exact ⟨⟩
        | refine vp F (c1) ?_
        | (refine Qb (id:=1) [0,1,2,3,4,5,6,7,8] [⟨[],[],9,[0,1,2,4,5,6],[10,11,12]⟩,⟨[],[],13,[12],[]⟩,⟨[],[],14,[],[]⟩] (by kernel_rfl) (by kernel_rfl) ?_; refine rn F ?_))
      all_goals exact ⟨_,rfl,rfl,rfl,rfl,rfl,rfl⟩
    · rw [QgC (.inl hr)]
      (unfold Tryz.f258; refine rn trivial ?_)
      have F:=@hr
      refine rn F ?_
      repeat' (first
        | with_reducible exact ⟨⟩
        | refine vp F (c1) ?_
        | (refine Qb (id:=1) [0,1,2,3,4,5,6,7,8] [⟨[],[],9,[0,1,2,4,5,6],[10,11,12]⟩,⟨[],[],13,[12],[]⟩,⟨[],[],14,[],[]⟩] (by kernel_rfl) (by kernel_rfl) ?_; refine rn F ?_))
      all_goals exact ⟨_,rfl,rfl,rfl,rfl,rfl,(by first | rfl | simp only [rbQ,hr])⟩
  · have c1:=Qc9 s r.at_ k (by omega) (by omega) (by omega)
    rw [QgC (.inr h)]
    (unfold Tryz.f258; refine rn trivial ?_)
    have F:=trivial
    refine rn F ?_
    repeat' (first
      | with_reducible exact ⟨⟩
      | (refine sG F ?_ ?_<;>intro hZ)
      | refine vp F (c1) ?_
      | (refine Qb (id:=1) [0,1,2,3,4,5,6,7,8] [⟨[],[],9,[0,1,2,4,5,6],[10,11,12]⟩,⟨[],[],13,[12],[]⟩,⟨[],[],14,[],[]⟩] (by kernel_rfl) (by kernel_rfl) ?_; refine rn F ?_))
    all_goals exact ⟨_,rfl,rfl,rfl,rfl,rfl,rfl⟩
structure LSrnum (s:List UInt8) (fin:List Int × RQ s) where
  n:Int
  out:List Int
  r:RQ s
  hn : -9223372036854775808<=n/\n<=9223372036854775807
  ho:4 * out.length<=r.lim
  he:rdN s n.toNat out r = fin
theorem QwK (s:List UInt8) (hs:s.length<=3000000) (k:Nat) (h1:1<=k) (h8:k<=8) (r:RQ s):VCalls prog 259 [.ptr 0 0,.int .i64 k] [rbQ 350 s r] (RY 350 s (lb (QfA s k r).1) (QfA s k r).2):=by
  refine dd Tryz.func259 ?_
  (unfold Tryz.f259; refine rn trivial ?_)
  refine QiA (k:=0) (QdG s hs k h1 h8 r) rfl rfl ?_
  refine rn trivial ?_
  refine VLoop.nilOwn 5 3 1 rfl ?_
  refine Qg (fun t:LSrnum s (QfA s k r)=>⟨27,1,[(6,.int .i64 t.n),(5,.own 1 1 0 t.out.length),(0,.ptr 0 0)],[rbQ 350 s t.r,⟨3,true,cells QN t.out⟩]⟩) (fun t=>t.n.toNat) ⟨(QbV s k r).1,[],(QbV s k r).2,Qnf r,Nat.zero_le _,rfl⟩ (gc [0,1]) ?_
  rintro ⟨n,out,q,hn,ho,he⟩
  dsimp only
  have hl:=q.lim_le
  have hl1:out.length + 1<=1000000:=by omega
  have hb:(out.length + 1) * 8<=140737488355328:=by omega
  obtain ⟨a,sh,ha⟩:=q
  cases sh
  · by_cases h0:0 < n
    · have e:n.toNat = (n - 1).toNat + 1:=by omega
      rw [e,rdN,if_neg (by simp)] at he
      have hm:=QgD (k:=8) (by omega) (⟨a,false,ha⟩:RQ s) rfl
      have F:=(And.intro @h0 (And.intro @QhF @hb))
      refine rn F ?_
      refine QiA (k:=0) (QdG s hs 8 (by omega) (by omega) ⟨a,false,ha⟩) rfl rfl ?_
      have F:=(And.intro @QhF @hb)
      refine rn F ?_
      refine ⟨⟨n - 1,_,_,by omega,by simp; omega,he⟩,by show (n - 1).toNat < n.toNat; omega,?_⟩
      dsimp only
      rw [List.length_append]
      exact (gc [0,3])
    · have e:n.toNat = 0:=by omega
      rw [e,rdN] at he
      have F:=(And.intro @QhF @hb)
      (refine rn F ?_; try with_reducible exact ⟨⟩)
      all_goals exact ⟨_,rfl,rfl,rfl,rfl,(by rw [<- he]; try rfl),(by rw [<- he]; try rfl)⟩
  · rw [QBv rfl] at he
    have F:=(And.intro @QhF @hb)
    refine rn F ?_
    repeat' (first
      | with_reducible exact ⟨⟩
      | (refine sG F ?_ ?_<;>intro hZ))
    all_goals exact ⟨_,rfl,rfl,rfl,rfl,(by rw [<- he]; try rfl),(by rw [<- he]; try rfl)⟩
structure DTrnum (s:List UInt8) where
  n:Int
  out:List Tx
  r:RQ s
  hn : -9223372036854775808<=n/\n<=9223372036854775807
  ho:4 * out.length<=r.lim
  he:rdT s n.toNat out r = rdA s
theorem Qog (s:List UInt8) (hs:s.length<=3000000):VCalls prog 256 [.pv (.str s)] [] (Ret (QAt (QB9 s))):=by
  refine VCalls.unwk ?_
  refine dd Tryz.func256 ?_
  (unfold Tryz.f256; refine rn trivial ?_)
  refine QiA (k:=0) (QdG s hs 2 (by omega) (by omega) (rq0 s)) rfl rfl ?_
  refine rn trivial ?_
  refine VLoop.nilOwn 5 218 6 rfl ?_
  refine Qg (fun t:DTrnum s=>⟨64,0,[(6,.int .i64 t.n),(5,.own 1 6 0 t.out.length),(4,.ptr 0 0),(0,.pv (.str s))],[rbQ 350 s t.r,⟨218,true,cells Qae t.out⟩]⟩) (fun t=>t.n.toNat) ⟨(QbV s 2 (rq0 s)).1,[],(QbV s 2 (rq0 s)).2,Qnf _,Nat.zero_le _,rfl⟩ (gc [0,1]) ?_
  rintro ⟨n,out,q,hn,ho,he⟩
  dsimp only
  have hl:=q.lim_le
  have hb:(out.length + 1) * 80<=140737488355328:=by omega
  have hsm:=QBw hs
  have ed:QB9 s = if (rdA s).2.sh = true then ([],5) else if ((rdA s).2.at_:Int) ≠ s.length then ([],4) else if QdF (rdA s).1 = false then ([],15) else ((rdA s).1,0):=rfl
  obtain ⟨a,sh,ha⟩:=q
  cases sh
  · by_cases h0:0 < n
    · have e:n.toNat = (n - 1).toNat + 1:=by omega
      rw [e,rdT,if_neg (by simp)] at he
      have hm:=QmG (⟨a,false,ha⟩:RQ s) rfl
      simp only [txS] at he hm
      have cA:=QdG s hs 4 (by omega) (by omega) ⟨a,false,ha⟩
      generalize QbV s 4 ⟨a,false,ha⟩ = A at cA he hm
      have cB:=QdG s hs 1 (by omega) (by omega) A.2
      generalize QbV s 1 A.2 = B at cB he hm
      have cC:=QdG s hs 8 (by omega) (by omega) B.2
      generalize QbV s 8 B.2 = C at cC he hm
      have cD:=QdG s hs 8 (by omega) (by omega) C.2
      generalize QbV s 8 C.2 = D at cD he hm
      have cE:=QwK s hs 2 (by omega) (by omega) D.2
      generalize QfA s 2 D.2 = E at cE he hm
      have cF:=QwK s hs 1 (by omega) (by omega) E.2
      generalize QfA s 1 E.2 = W at cF he hm
      have F:=(And.intro @h0 (And.intro @QfD @hb))
      refine rn F ?_
      refine QiA (k:=0) cA rfl rfl ?_
      have F:=(And.intro @h0 (And.intro @QfD @hb))
      refine rn F ?_
      refine QiA (k:=0) cB rfl rfl ?_
      have F:=(And.intro @h0 (And.intro @QfD @hb))
      refine rn F ?_
      refine QiA (k:=0) cC rfl rfl ?_
      have F:=(And.intro @h0 (And.intro @QfD @hb))
      refine rn F ?_
      refine QiA (k:=0) cD rfl rfl ?_
      have F:=(And.intro @h0 (And.intro @QfD @hb))
      refine rn F ?_
      refine QiA (k:=0) cE rfl rfl ?_
      have F:=(And.intro @h0 (And.intro @QfD @hb))
      refine rn F ?_
      refine QiA (k:=0) cF rfl rfl ?_
      have F:=(And.intro @h0 (And.intro @QfD @hb))
      refine rn F ?_
      refine ⟨⟨n - 1,_,_,by omega,by simp; omega,he⟩,by show (n - 1).toNat < n.toNat; omega,?_⟩
      dsimp only
      have e2:cells Qae out ++ [.pv (.lit (.int .i64 A.1)),.pv (.lit (.int .i64 B.1)),.pv (.lit (.int .i64 C.1)),.pv (.lit (.int .i64 D.1)),.pv (.sl (fz QN E.1)),.pv (.sl (fz QN W.1))] = cells Qae (out ++ [⟨A.1,B.1,C.1,D.1,E.1,W.1⟩]):=QfD out ⟨A.1,B.1,C.1,D.1,E.1,W.1⟩
      rw [List.length_append]
      rw [e2]
      exact (gc [0,4])
    · have e:n.toNat = 0:=by omega
      rw [e,rdT] at he
      rw [<- he] at ed hsm
      have c1:=Qbs out hsm
      rw [ed]
      by_cases h1:(a:Int) = s.length
      · cases hv:QdF out
        · rw [hv] at c1
          dsimp only
          rw [if_neg (by simp),if_neg (by simpa using h1),if_pos (by first | rfl | exact hv)]
          have F:=(And.intro @h0 (And.intro @h1 @hb))
          refine rn F ?_
          repeat' (first
            | with_reducible exact ⟨⟩
            | refine vl F (c1) ?_)
          all_goals first | rfl | contradiction
        · rw [hv] at c1
          dsimp only
          rw [if_neg (by simp),if_neg (by simpa using h1),if_neg (by first | simp; done | (rw [hv]; simp))]
          have F:=(And.intro @h0 (And.intro @h1 @hb))
          refine rn F ?_
          repeat' (first
            | with_reducible exact ⟨⟩
            | refine vl F (c1) ?_)
          all_goals first | rfl | contradiction
      · dsimp only
        rw [if_neg (by simp),if_pos (by simpa using h1)]
        have F:=(And.intro @h0 (And.intro @h1 @hb))
        (refine rn F ?_; try with_reducible exact ⟨⟩)
        all_goals first | rfl | contradiction
  · rw [QBu rfl] at he
    rw [<- he] at ed
    rw [ed]
    dsimp only
    rw [if_pos rfl]
    have F:=@hb
    refine rn F ?_
    repeat' (first
      | with_reducible exact ⟨⟩
      | (refine sG F ?_ ?_<;>intro hZ))
    all_goals first | rfl | contradiction
end
section
attribute [local go_sem] QaZ
structure Sv where
  k:Kn
  v:Dv
@[go_sem] def Sv.d (s:Sv):List DV:=[.int .i64 s.k.pg,.int .i64 s.k.nx,.int .i64 s.k.lg.f,.pv (.sl (fz encE s.k.lg.es)),.int .i64 s.k.lg.d,.int .i64 s.k.pl.size,.pv (.sl (fz Qb8 s.k.pl.fs)),.int .i64 s.k.pl.hand,.pv (.sl (fz Qao s.k.lk.held)),.pv (.sl (fz Qao s.k.lk.wait)),.pv (.sl (fz Qae s.k.tx)),.pv (.sl (fz QbN s.k.ix)),.pv (.sl (fz Qdm s.k.la)),.pv (.sl (fz Qdn s.v.ps)),.int .i64 s.v.wr,.pv (.sl []),.bool s.v.dead,.pv (.sl [])]
def Sv0:Sv:=⟨Kn0,Dv0⟩
def Sv.sm (s:Sv):Prop:=s.k.sm/\s.v.ps.length<=64
theorem QcY:Sv0.sm:=⟨QbC,Nat.zero_le _⟩
@[go_sem] def svD (a:Sv × Int):DV:=.tup [.agg a.1.d,.int .i64 a.2]
def Zv:List DV:=[.int .i64 0,.int .i64 0,.int .i64 0,.pv (.slc []),.int .i64 0,.int .i64 0,.pv (.slc []),.int .i64 0,.pv (.slc []),.pv (.slc []),.pv (.slc []),.pv (.slc []),.pv (.slc []),.pv (.slc []),.int .i64 0,.pv (.slc []),.bool false,.pv (.slc [])]
def QAF (k:Kn) (x:Pg) (a:Sv × Int):Prop:=a.1.sm/\(a.2 = 0->Ev k.lg a.1.k.lg/\a.1.k.tx = k.tx/\(0<=Qbd k.pl x.id->a.1.k.pl = (QbB k.pl x.id x.lsn).1/\(QbB k.pl x.id x.lsn).2 = 0))
theorem QmQ (s:Sv) (hs:s.v.ps.length<=64) (k:Kn) (hk:k.sm) (x:Pg):VCalls prog 107 [.agg s.d,.agg k.d,.agg x.d] [] (QC svD (QAF k x)):=by
  refine dk Tryz.func107 ?_
  have c1:=QlL x
  have c2:=fun (t:List UInt8) (h:t.length<=256)=>Qrg s.v (by omega) x.id t (by omega)
  have c3:=Qoc k hk x.id x.lsn
  (unfold Tryz.f107; refine rn trivial ?_)
  refine rn F ?_
  repeat' (first
    | with_reducible exact ⟨⟩
    | (refine sB F ?_ ?_<;>intro hZ)
    | (refine Qj (c1) rfl ?_; rintro ⟨t,e1⟩ ht; refine rn F ?_)
    | (refine Qj (c2 t ht) rfl ?_; rintro ⟨v1,e2⟩ hv; refine rn F ?_)
    | (refine Qj (c3) rfl ?_; rintro ⟨k1,e3⟩ hq; refine rn F ?_))
  all_goals first
    | exact ⟨rfl,rfl,(Sv0,e2),rfl,QcY,fun h=>absurd h (by assumption)⟩
    | exact ⟨rfl,rfl,(Sv0,e3),rfl,QcY,fun h=>absurd h (by assumption)⟩
    | (have q:=hq.2 (by dsimp only; omega)
       exact ⟨rfl,rfl,(⟨k1,v1⟩,0),rfl,⟨hq.1,hv⟩,fun _=>⟨q.2.1,q.2.2.1,q.2.2.2.1⟩⟩)
    | skip
def QcS (l:List Fm):Nat:=l.countP (·.dirty)
theorem Qib (l:List Fm):QcS (l.map Fm.clr) = QcS l:=by
  unfold QcS; rw [List.countP_map]; rfl
theorem SameF.dirty {l m:List Fm} (h:SameF l m):QcS m = QcS l:=by
  rw [<- Qib m,<- Qib l,show m.map Fm.clr = l.map Fm.clr from h]
theorem QoT (l:List Fm) (i:Nat) (h:i < l.length) (hu:(l.getD i Fm0).dirty = true) (f:Fm) (hf:f.dirty = false):QcS (l.set i f) < QcS l:=by
  unfold QcS
  rw [List.countP_set h]
  rw [Qk l i h] at hu
  have:0 < l.countP (·.dirty):=List.countP_pos_iff.2 ⟨l[i],List.getElem_mem h,hu⟩
  simp only [hu,hf,if_true]
  simp
  omega
theorem Qo1 {p:Pl} {x:Pg} {i:Nat} (hp:plB p = true) (hi:i < p.fs.length) (h1:idF p.fs x.id = i) (h2:(p.fs.getD i Fm0).pg = x) (h3:(p.fs.getD i Fm0).dirty = true):QcS (QbB p x.id x.lsn).1.fs < QcS p.fs:=by
  unfold QbB
  rw [if_neg (by rw [hp]; decide),h1,if_neg (by omega),Int.toNat_natCast,h2,if_neg (by omega),if_neg (by rw [h3]; decide)]
  refine QoT _ _ hi h3 _ ?_
  unfold Qfl
  rw [h2,if_pos rfl]
def stQ (s:Sv) (a:Sv × Int):Prop:=a.1.sm/\(a.2 = 0->Ev s.k.lg a.1.k.lg/\a.1.k.tx = s.k.tx)
structure Rm (s0:Sv) where
  s:Sv
  sm:s.sm
  ev:Ev s0.k.lg s.k.lg
  tx:s.k.tx = s0.k.tx
theorem Quz (s:Sv) (hs:s.sm):VCalls prog 135 [.agg s.d] [] (QC svD (stQ s)):=by
  refine dk Tryz.func135 ?_
  (unfold Tryz.f135; refine rn trivial ?_)
  refine Qg (fun r:Rm s=>⟨36,0,[(2,.ptr 1 0),(1,.ptr 0 0)],[⟨84,true,r.s.d⟩,⟨84,true,Zv⟩]⟩) (fun r=>QcS r.s.k.pl.fs) ⟨s,hs,Ev.refl _,rfl⟩ (gc [0,1]) ?_
  rintro ⟨s1,sm,ev,tx⟩
  dsimp only
  have c1:=Qyk s1.k sm.1
  have c2:=fun k hk x=>QmQ s1 sm.2 k hk x
  unfold Zv
  refine rn F ?_
  repeat' (first
    | with_reducible exact ⟨⟩
    | (refine sB F ?_ ?_<;>intro hZ)
    | (refine Qj (c1) rfl ?_; rintro ⟨k1,x,b,e⟩ hq; refine rn F ?_)
    | (refine Qj (c2 k1 hq.1 x) rfl ?_; rintro ⟨s2,e2⟩ hq2; refine rn F ?_))
  · exact ⟨rfl,rfl,(Sv0,e),rfl,QcY,fun h=>absurd h (by assumption)⟩
  · have q:=hq.2 (by dsimp only; omega)
    exact ⟨rfl,rfl,(⟨k1,s1.v⟩,0),rfl,⟨hq.1,sm.2⟩,fun _=>⟨ev.trans q.1,q.2.1.trans tx⟩⟩
  · exact ⟨rfl,rfl,(Sv0,e2),rfl,QcY,fun h=>absurd h (by assumption)⟩
  · have q:=hq.2 (by dsimp only; omega)
    have q2:=hq2.2 (by dsimp only; omega)
    obtain ⟨p1,p2,i,p3,p4,p5,p6⟩:=q.2.2 (by dsimp only; first | assumption | simp_all)
    dsimp only at p1 p2 p3 p4 p5 p6
    have hf:Qbd k1.pl x.id = i:=by unfold Qbd; rw [if_pos p1]; exact p4
    obtain ⟨r1,r2⟩:=q2.2.2 (by rw [hf]; omega)
    have hlt:=Qo1 p1 p3 p4 p5 p6
    rw [p2.dirty] at hlt
    dsimp only at r1
    exact ⟨⟨s2,hq2.1,(ev.trans q.1).trans q2.1,q2.2.1.trans (q.2.1.trans tx)⟩,by dsimp only; rw [r1]; exact hlt,(gc [0,1])⟩
def Qw7 (s:Sv) (n:Int) (a:Sv × Int):Prop:=a.1.sm/\(a.2 = 0->Ev s.k.lg a.1.k.lg/\a.1.k.tx = s.k.tx/\0<=idF a.1.k.pl.fs n)
theorem Qec (s:Sv) (hs:s.sm) (n:Int):VCalls prog 112 [.agg s.d,.int .i64 n] [] (QC svD (Qw7 s n)):=by
  refine dk Tryz.func112 ?_
  have c1:=QW s.k hs.1
  have c2:=Qcb s.k.pl (Nat.le_trans hs.1.2.1 (by decide)) n
  have c3:=Quz s hs
  have c4:=fun (t:Sv) (h:t.sm)=>QuX t.v (Nat.le_trans h.2 (by decide)) n
  have c5:=fun (t:Sv) (h:t.sm)=>QlP t.k h.1 n
  have c6:=fun (t:Sv) (h:t.sm) (hd:Int) (b:List UInt8) (hb:b.length<=1000000)=>QuN t.k.ix h.1.2.2.2.2.1 n hd b hb
  have c7:=fun (t:Sv) (h:t.sm) (p:Pg) (hd:Int)=>Qyl t.k.lg h.1.1 p hd
  have c8:=fun (t:Sv) (h:t.sm) (p:Pg)=>QqJ t.k h.1 p
  have hfi:0<=Qbd s.k.pl n->0<=idF s.k.pl.fs n:=fun h=>by unfold Qbd at h; split at h<;>omega
  have e0:∀ e,e ≠ 0->Qw7 s n (Sv0,e):=fun e h=>⟨QcY,fun h2=>absurd h2 h⟩
  generalize Qbd s.k.pl n = fi at *
  (unfold Tryz.f112; refine rn trivial ?_)
  refine rn F ?_
  repeat' (first
    | with_reducible exact ⟨⟩
    | (refine sG F ?_ ?_<;>intro hZ)
    | (refine sB F ?_ ?_<;>intro hZ)
    | (refine Qj (c1) rfl ?_; rintro b -; refine rn F ?_)
    | refine vp F (c2) ?_
    | (refine Qj (c3) rfl ?_; rintro ⟨s1,e1⟩ hq1; refine rn F ?_)
    | (refine Qj (c4 s1 hq1.1) rfl ?_; rintro ⟨t,e2⟩ ht; refine rn F ?_)
    | (refine Qj (c5 s1 hq1.1) rfl ?_; rintro hd -; refine rn F ?_)
    | (refine Qj (c6 s1 hq1.1 hd t (by have:=ht (by dsimp only; omega); dsimp only at this; omega)) rfl ?_; rintro ⟨p,e3⟩ hp; refine rn F ?_)
    | (refine Qj (c7 s1 hq1.1 p hd) rfl ?_; rintro ⟨p2,e4⟩ hp2; refine rn F ?_)
    | (refine Qj (c8 s1 hq1.1 p2) rfl ?_; rintro ⟨k2,e5⟩ hq5; refine rn F ?_))
  all_goals first
    | exact ⟨rfl,rfl,(s,0),rfl,hs,fun _=>⟨Ev.refl _,rfl,hfi (by omega)⟩⟩
    | exact ⟨rfl,rfl,(Sv0,_),rfl,e0 _ (by assumption)⟩
    | exact ⟨rfl,rfl,(Sv0,15),rfl,e0 _ (by decide)⟩
    | exact ⟨rfl,rfl,(Sv0,1),rfl,e0 _ (by decide)⟩
    | (have q1:=hq1.2 (by dsimp only; omega)
       have q5:=hq5.2 (by dsimp only; omega)
       have i3:=hp (by dsimp only; omega)
       have i4:=hp2 (by dsimp only; omega)
       dsimp only at q1 q5 i3 i4
       exact ⟨rfl,rfl,(⟨k2,s1.v⟩,0),rfl,⟨hq5.1,hq1.1.2⟩,fun _=>⟨by dsimp only; rw [q5.1]; exact q1.1,q5.2.1.trans q1.2,by dsimp only; have:=q5.2.2; rw [i4,i3] at this; exact this⟩⟩)
    | skip
end
section
attribute [local go_sem] QaZ
@[go_sem] def tiD (a:Tx × Int):DV:=.tup [.agg a.1.d,.int .i64 a.2]
@[go_sem] def ebD (a:E × Bool):DV:=.tup [.agg a.1.d,.bool a.2]
def QxY (l:List Tx) (a:Int):Tx:=l.getD (idT l a).toNat Tx0
def QBi (k:Kn) (tx:Int) (a:Tx × Int):Prop:=a.1.l.length<=100000/\(a.2 = 0->VK k/\0<=idT k.tx tx/\a.1 = QxY k.tx tx)
theorem Qc7 (k:Kn) (h:k.sm) (tx:Int):VCalls prog 142 [.agg k.d,.int .i64 tx] [] (QC tiD (QBi k tx)):=by
  refine dk Tryz.func142 ?_
  have c1:=QW k h
  obtain ⟨h1,h2,h3,h4,h5,h6⟩:=h
  have c2:=QbG k.tx (Nat.le_trans h4.1 (by decide)) tx
  have e0:∀ e,e ≠ 0->QBi k tx (Tx0,e):=fun e h=>⟨by simp [Tx0],fun h2=>absurd h2 h⟩
  rcases Q7 k.tx tx with hn | ⟨i,hil,hid,_⟩
  · rw [hn] at c2
    (unfold Tryz.f142; refine rn trivial ?_)
    refine rn F ?_
    repeat' (first
      | with_reducible exact ⟨⟩
      | (refine sB F ?_ ?_<;>intro hZ)
      | (refine Qj (c1) rfl ?_; rintro b -; refine rn F ?_)
      | refine vp F (c2) ?_)
    all_goals exact ⟨rfl,rfl,(Tx0,_),rfl,e0 _ (by decide)⟩
  rw [hid] at c2
  have hg:=QdN k.tx i hil
  have ht:(k.tx.getD i Tx0).l.length<=100000:=by rw [Qk _ _ hil]; exact (h4.2 _ (List.getElem_mem hil)).1
  have he:QxY k.tx tx = k.tx.getD i Tx0:=by unfold QxY; rw [hid]; rfl
  (unfold Tryz.f142; refine rn trivial ?_)
  have F:=@hg
  refine rn F ?_
  repeat' (first
    | with_reducible exact ⟨⟩
    | (refine sB F ?_ ?_<;>intro hZ)
    | (refine Qj (c1) rfl ?_; rintro b hb; refine rn F ?_)
    | refine vp F (c2) ?_)
  all_goals first
    | exact ⟨rfl,rfl,(k.tx.getD i Tx0,0),rfl,ht,fun _=>⟨hb (by assumption),by omega,he.symm⟩⟩
    | exact ⟨rfl,rfl,(Tx0,15),rfl,e0 _ (by decide)⟩
    | exact ⟨rfl,rfl,(Tx0,16),rfl,e0 _ (by decide)⟩
    | skip
def Qoy (l:List Tx) (a:Int):Int:=(QxY l a).l.getD ((QxY l a).l.length - 1) 0
def Qi2 (l:List Tx) (g:Lg) (a:Int):E:=(QdU g (Qoy l a)).1
def QBJ (k:Kn) (tx:Int) (a:E × Bool):Prop:=a.2 = true->VK k/\a.1 = Qi2 k.tx k.lg tx/\(QdU k.lg (Qoy k.tx tx)).2 = 0
theorem Qyw (k:Kn) (h:k.sm) (tx:Int):VCalls prog 144 [.agg k.d,.int .i64 tx] [] (QC ebD (QBJ k tx)):=by
  refine dk Tryz.func144 ?_
  have c1:=Qc7 k h tx
  obtain ⟨h1,h2,h3,h4,h5,h6⟩:=h
  have c2:=Qe8 k.lg (by omega)
  have e0:QBJ k tx (E0,false):=fun h=>by cases h
  (unfold Tryz.f144; refine rn trivial ?_)
  refine Qj c1 rfl ?_
  rintro ⟨t,e⟩ ⟨ht,hq⟩
  dsimp only at ht hq
  have hg:=fun h:t.l.length - 1 < t.l.length=>QX t.l (t.l.length - 1) h
  have F:=@hg
  refine rn F ?_
  repeat' (first
    | with_reducible exact ⟨⟩
    | (refine sG F ?_ ?_<;>intro hZ)
    | (refine sB F ?_ ?_<;>intro hZ)
    | refine vp F (c2 _) ?_
    | (refine Qb (id:=2) [0,1,2,3,4,5,6,7,8,9,10,11,12,13,14,15,16,17,18,19,20] [] (by kernel_rfl) (by kernel_rfl) ?_; refine rn F ?_)
    | (refine Qb (id:=4) [0,1,2,3,4,5,6,7,8,9] [⟨[14],[],10,[0,2,3,4,5,6,7,8],[11,12,13]⟩,⟨[14],[14],15,[13],[]⟩,⟨[],[],16,[],[]⟩] (by kernel_rfl) (by kernel_rfl) ?_; refine rn F ?_))
  all_goals first
    | exact ⟨rfl,rfl,(E0,false),rfl,e0⟩
    | skip
  obtain ⟨v,_,rfl⟩:=hq (by first | omega | simp_all)
  exact ⟨rfl,rfl,((QdU k.lg (Qoy k.tx tx)).1,_),rfl,fun h=>⟨v,rfl,by simpa [Qoy] using h⟩⟩
theorem QDe (k:Kn) (h:k.sm) (t:Tx) (ht:t.l.length<=100000) (pg sl:Int):VCalls prog 235 [.agg k.d,.agg t.d,.agg [.int .i64 pg,.int .i64 sl],.int .i64 t.l.length] [] (QC ebD fun a=>a.2 = true->a.1.c.pg = pg):=by
  refine dk Tryz.func235 ?_
  obtain ⟨h1,h2,h3,h4,h5,h6⟩:=h
  have c2:=Qe8 k.lg (by omega)
  (unfold Tryz.f235; refine rn trivial ?_)
  refine Qg (fun s:To t.l.length=>⟨50,0,[(10,.int .i64 ((s.i:Int) - 1)),(8,.ptr 3 0),(6,.ptr 2 0),(5,.ptr 1 0),(4,.ptr 0 0)],[⟨41,true,k.d⟩,⟨218,true,t.d⟩,⟨197,true,[.int .i64 pg,.int .i64 sl]⟩,⟨60,true,E0.d⟩]⟩) (fun s=>s.i) ⟨t.l.length,Nat.le_refl _⟩ (gc [0,1,2,3]) ?_
  rintro ⟨i,hi⟩
  dsimp only
  have hg:=fun h:i - 1 < t.l.length=>QX t.l (i - 1) h
  have c3:=c2 (t.l.getD (i - 1) 0)
  generalize QdU k.lg (t.l.getD (i - 1) 0) = g at *
  have F:=@hg
  refine rn F ?_
  repeat' (first
    | with_reducible exact ⟨⟩
    | (refine sG F ?_ ?_<;>intro hZ)
    | (refine sB F ?_ ?_<;>intro hZ)
    | refine vp F (c3) ?_
    | (refine Qb (id:=4) [0,1,2,3,4,5,6] [⟨[11],[],7,[0,2,3,4,5],[8,9,10]⟩,⟨[11],[11],12,[10],[]⟩,⟨[],[],13,[],[]⟩] (by kernel_rfl) (by kernel_rfl) ?_; refine rn F ?_))
  all_goals first
    | exact ⟨rfl,rfl,(E0,false),rfl,fun h=>by cases h⟩
    | exact ⟨rfl,rfl,(g.1,true),rfl,fun _=>by dsimp only; omega⟩
    | (refine ⟨⟨i - 1,by omega⟩,by dsimp only; omega,?_⟩
       dsimp only
       rw [show ((i - 1:Nat):Int) - 1 = (i:Int) - 1 - 1 by omega]
       exact (gc [0,1,2,3]))
    | skip
theorem Qj8 (k:Kn) (h:k.sm) (tx pg sl:Int):VCalls prog 189 [.agg k.d,.int .i64 tx,.agg [.int .i64 pg,.int .i64 sl]] [] (QC ebD fun a=>a.2 = true->a.1.c.pg = pg):=by
  refine dk Tryz.func189 ?_
  have c1:=Qc7 k h tx
  (unfold Tryz.f189; refine rn trivial ?_)
  refine Qj c1 rfl ?_
  rintro ⟨t,e⟩ ⟨ht,hq⟩
  have c2:=QDe k h t ht
  refine rn F ?_
  repeat' (first
    | with_reducible exact ⟨⟩
    | (refine sG F ?_ ?_<;>intro hZ)
    | (refine sB F ?_ ?_<;>intro hZ)
    | (refine Qj (c2 _ _) rfl ?_; rintro ⟨y,b⟩ hb; refine rn F ?_))
  all_goals first
    | exact ⟨rfl,rfl,(E0,false),rfl,fun h=>by cases h⟩
    | exact ⟨rfl,rfl,(y,b),rfl,hb⟩
    | skip
def QAX (k:Kn) (pg:Int) (a:Kn × Rs):Prop:=a.1.sm/\Ev k.lg a.1.lg/\(a.2.st = 3->a.1 = k/\a.2.pg = pg/\idF k.pl.fs pg < 0)/\(a.2.st ≠ 3->a.2.st ≠ 5->k.lg.es.length < a.1.lg.es.length)/\(a.2.st = 5->a.2.er ≠ 0)
theorem QqD (k:Kn) (h:k.sm) (hv:VK k) (t:Tx) (e:E):VCalls prog 145 [.agg k.d,.agg t.d,.agg e.d] [] (QC krD (QAX k e.c.pg)):=by
  refine dk Tryz.func145 ?_
  have h':=h
  obtain ⟨h1,h2,h3,h4,h5,h6⟩:=h
  have c1:=Qgl k.pl (by omega) e.c.pg
  have hn:=Qsm (a:=e.c.pg) hv.2.2.2.1
  have c2:=QBm e.c
  generalize Qnq k.pl e.c.pg = g at *
  have c3:=Qj7 g.1 ⟨e.c.pg,e.c.sl,e.c.a,e.c.b⟩
  have c4:=QwH k h' ⟨0,2,t.id,0,0,e.lsn,⟨e.c.pg,e.c.sl,e.c.a,e.c.b⟩,[]⟩ (.inr rfl)
  have hf:∀ er,er ≠ 0->QAX k e.c.pg (k,QaC er):=fun er hr=>⟨h',Ev.refl _,fun h=>by simp [QaC] at h,fun _ h=>absurd rfl h,fun _=>hr⟩
  (unfold Tryz.f145; refine rn trivial ?_)
  refine rn F ?_
  repeat' (first
    | with_reducible exact ⟨⟩
    | (refine sB F ?_ ?_<;>intro hZ)
    | refine vp F (c1) ?_
    | refine vp F (c2) ?_
    | (refine Qj (c3) rfl ?_; rintro ⟨p1,e1⟩ -; refine rn F ?_)
    | (refine Qj (c4) rfl ?_; rintro ⟨k1,e2⟩ hq; refine rn F ?_)
    | refine vp F (Qac _) ?_
    | (refine Qj (Qj8 k1 hq.1 _ _ _) rfl ?_; rintro ⟨y,b⟩ -; refine rn F ?_)
    | (refine Qj (Qri k1.lk (Nat.le_trans hq.1.2.2.1 (by decide)) _ _ _) rfl ?_; rintro u hu; refine rn F ?_)
    | (refine Qb (id:=3) [0,1,2,3,4] [⟨[],[],5,[1,2,3,4],[]⟩,⟨[],[],6,[],[]⟩] (by kernel_rfl) (by kernel_rfl) ?_; refine rn F ?_)
    | (refine Qb (id:=7) [0,1] [⟨[],[],2,[0],[]⟩,⟨[],[],3,[1],[]⟩,⟨[],[],4,[],[]⟩] (by kernel_rfl) (by kernel_rfl) ?_; refine rn F ?_)
    | (refine Qb (id:=10) [0,1] [⟨[],[],2,[0],[]⟩,⟨[],[],3,[1],[]⟩,⟨[],[],4,[],[]⟩] (by kernel_rfl) (by kernel_rfl) ?_; refine rn F ?_)
    | (refine Qb (id:=16) [0,1,2,3] [⟨[],[],4,[1,2,3],[]⟩,⟨[],[],5,[],[]⟩] (by kernel_rfl) (by kernel_rfl) ?_; refine rn F ?_))
  all_goals first
    | exact ⟨rfl,rfl,(k,⟨3,0,e.c.pg,Ce0,0⟩),rfl,h',Ev.refl _,fun _=>⟨rfl,rfl,hn (by first | assumption | simp_all)⟩,fun h=>absurd rfl h,fun h=>by simp at h⟩
    | exact ⟨rfl,rfl,(k,QaC _),rfl,hf _ (by assumption)⟩
    | (have q:=hq.2.1 (by dsimp only; omega)
       dsimp only at q
       first
         | exact ⟨rfl,rfl,(k1,⟨1,t.id,0,Ce0,0⟩),rfl,hq.1,q.1,fun h=>by simp at h,fun _ _=>by dsimp only; omega,fun h=>by simp at h⟩
         | (obtain ⟨r1,r2,r3,r4,r5,r6⟩:=hq.1
            exact ⟨rfl,rfl,(⟨k1.pg,k1.nx,k1.lg,k1.pl,u,k1.tx,k1.ix,k1.la⟩,⟨1,t.id,0,Ce0,0⟩),rfl,⟨r1,r2,Nat.le_trans hu r3,r4,r5,r6⟩,q.1,fun h=>by simp at h,fun _ _=>by dsimp only; omega,fun h=>by simp at h⟩))
    | skip
end
section
attribute [local go_sem] QaZ
def QA5 (k:Kn) (tx:Int) (a:Kn × Rs):Prop:=a.1.sm/\Ev k.lg a.1.lg/\(a.2.st = 3->VK k/\a.1 = k/\a.2.pg = (Qi2 k.tx k.lg tx).c.pg/\(QdU k.lg (Qoy k.tx tx)).2 = 0/\idF k.pl.fs a.2.pg < 0)/\(a.2.st ≠ 3->a.2.st ≠ 5->k.lg.es.length < a.1.lg.es.length)/\(a.2.st = 5->a.2.er ≠ 0)
theorem QqK (k:Kn) (h:k.sm) (tx:Int):VCalls prog 114 [.agg k.d,.int .i64 tx] [] (QC krD (QA5 k tx)):=by
  refine dk Tryz.func114 ?_
  have c1:=Qc7 k h tx
  have c2:=QdH k h ⟨0,5,tx,0,0,0,Ch0,[]⟩
  have c3:=Qyw k h tx
  have hf:∀ er,er ≠ 0->QA5 k tx (k,QaC er):=fun er hr=>⟨h,Ev.refl _,fun h=>by simp [QaC] at h,fun _ h=>absurd rfl h,fun _=>hr⟩
  (unfold Tryz.f114; refine rn trivial ?_)
  refine Qj c1 rfl ?_
  rintro ⟨t,e⟩ ⟨ht,hq0⟩
  by_cases he:e = 0
  rotate_left
  · skip
    have F:=@he
    refine rn F ?_
    repeat' (first
      | with_reducible exact ⟨⟩
      | refine vp F (Qac _) ?_
      | (refine Qb (id:=3) [0,1] [⟨[],[],2,[0],[]⟩,⟨[],[],3,[1],[]⟩,⟨[],[],4,[],[]⟩] (by kernel_rfl) (by kernel_rfl) ?_; refine rn F ?_))
    exact ⟨rfl,rfl,(k,QaC e),rfl,hf _ he⟩
  obtain ⟨hv,hi,rfl⟩:=hq0 he
  subst he
  generalize QxY k.tx tx = t at *
  have F:=trivial
  refine rn F ?_
  repeat' (first
    | with_reducible exact ⟨⟩
    | (refine sG F ?_ ?_<;>intro hZ)
    | (refine sB F ?_ ?_<;>intro hZ)
    | (refine Qj (c2) rfl ?_; rintro ⟨k1,n1,e1⟩ hq; refine rn F ?_)
    | refine vp F (Qac _) ?_
    | (refine Qj (Qc8 k1.lk (Nat.le_trans hq.1.2.2.1 (by decide)) tx) rfl ?_; rintro u hu; refine rn F ?_)
    | (refine Qj (c3) rfl ?_; rintro ⟨y,ok⟩ hy; refine rn F ?_)
    | (refine Qj (QqD k h hv ⟨_,_,_,_,_,_⟩ y) rfl ?_; rintro ⟨k2,r2⟩ hq2; refine rn F ?_)
    | (refine Qb (id:=7) [0,1] [⟨[],[],2,[0],[]⟩,⟨[],[],3,[1],[]⟩,⟨[],[],4,[],[]⟩] (by kernel_rfl) (by kernel_rfl) ?_; refine rn F ?_)
    | (refine Qb (id:=12) [0] [⟨[],[],1,[0],[]⟩,⟨[],[],2,[],[]⟩,⟨[],[],3,[],[]⟩] (by kernel_rfl) (by kernel_rfl) ?_; refine rn F ?_))
  all_goals first
    | exact ⟨rfl,rfl,(k,QaC _),rfl,hf _ (by first | assumption | decide)⟩
    | (obtain ⟨q1,q2,q3,q4,q5,q6,q7⟩:=QdT hq (by omega)
       obtain ⟨r1,r2,r3,r4,r5,r6⟩:=hq.1
       exact ⟨rfl,rfl,(⟨k1.pg,k1.nx,k1.lg,k1.pl,u,k1.tx,k1.ix,k1.la⟩,⟨1,0,0,Ce0,0⟩),rfl,⟨r1,r2,Nat.le_trans hu r3,r4,r5,r6⟩,q1,fun h=>by simp at h,fun _ _=>by dsimp only; omega,fun h=>by simp at h⟩)
    | (obtain ⟨y1,y2,y3⟩:=hy (by first | assumption | simp_all)
       dsimp only at y2
       exact ⟨rfl,rfl,(k2,r2),rfl,hq2.1,hq2.2.1,fun h=>⟨hv,(hq2.2.2.1 h).1,by rw [<- y2]; exact (hq2.2.2.1 h).2.1,y3,by rw [(hq2.2.2.1 h).2.1]; exact (hq2.2.2.1 h).2.2⟩,hq2.2.2.2.1,hq2.2.2.2.2⟩)
    | skip
def QCf (k:Kn) (pg:Int) (a:Kn × Rs):Prop:=a.1.sm/\Ev k.lg a.1.lg/\(a.2.st = 3->a.1 = k/\a.2.pg = pg/\idF k.pl.fs pg < 0)/\(a.2.st ≠ 3->a.2.st ≠ 5->a.2.tx ≠ 0->k.lg.es.length < a.1.lg.es.length)
theorem QyF (k:Kn) (h:k.sm) (tx pg sl:Int):VCalls prog 153 [.agg k.d,.int .i64 tx,.agg [.int .i64 pg,.int .i64 sl]] [] (QC krD (QCf k pg)):=by
  refine dk Tryz.func153 ?_
  have c1:=Qc7 k h tx
  have c3:=Qj8 k h tx pg sl
  have hf:∀ er,QCf k pg (k,QaC er):=fun er=>⟨h,Ev.refl _,fun h=>by simp [QaC] at h,fun _ h=>absurd rfl h⟩
  (unfold Tryz.f153; refine rn trivial ?_)
  refine Qj c1 rfl ?_
  rintro ⟨t,e⟩ ⟨ht,hq0⟩
  by_cases he:e = 0
  rotate_left
  · skip
    have F:=@he
    refine rn F ?_
    repeat' (first
      | with_reducible exact ⟨⟩
      | refine vp F (Qac _) ?_
      | (refine Qb (id:=3) [0,1] [⟨[],[],2,[0],[]⟩,⟨[],[],3,[1],[]⟩,⟨[],[],4,[],[]⟩] (by kernel_rfl) (by kernel_rfl) ?_; refine rn F ?_))
    exact ⟨rfl,rfl,(k,QaC e),rfl,hf _⟩
  obtain ⟨hv,hi,rfl⟩:=hq0 he
  subst he
  generalize QxY k.tx tx = t at *
  have F:=trivial
  refine rn F ?_
  repeat' (first
    | with_reducible exact ⟨⟩
    | (refine sB F ?_ ?_<;>intro hZ)
    | refine vp F (Qac _) ?_
    | (refine Qj (c3) rfl ?_; rintro ⟨y,ok⟩ hy; refine rn F ?_)
    | (refine Qj (QqD k h hv ⟨_,_,_,_,_,_⟩ y) rfl ?_; rintro ⟨k2,r2⟩ hq2; refine rn F ?_)
    | (refine Qb (id:=5) [0] [⟨[],[],1,[0],[]⟩,⟨[],[],2,[],[]⟩,⟨[],[],3,[],[]⟩] (by kernel_rfl) (by kernel_rfl) ?_; refine rn F ?_))
  all_goals first
    | exact ⟨rfl,rfl,(k,QaC _),rfl,hf _⟩
    | exact ⟨rfl,rfl,(k,⟨1,0,0,Ce0,0⟩),rfl,h,Ev.refl _,fun h=>by simp at h,fun _ _ h=>absurd rfl h⟩
    | (have y2:=hy (by first | assumption | simp_all)
       dsimp only at y2
       rw [y2] at hq2
       exact ⟨rfl,rfl,(k2,r2),rfl,hq2.1,hq2.2.1,hq2.2.2.1,fun h1 h2 _=>hq2.2.2.2.1 h1 h2⟩)
    | skip
end
section
attribute [local go_sem] QaZ
theorem Ev.get {x y:Lg} (h:Ev x y) {n:Int} (h0:(QdU x n).2 = 0):QdU y n = QdU x n:=by
  obtain ⟨hv,h1,h2,_,_⟩:=Qsn h0
  have hf:=h.f
  obtain ⟨t,ht⟩:=h.pre
  have hv2:=h.ok hv
  have hl:y.es.length = x.es.length + t.length:=by rw [<- ht,List.length_append]
  have hd:=QB hv
  simp only [Lg.hd] at hd
  unfold QdU
  rw [if_neg (by rw [hv2]; decide),if_neg (by simp only [Lg.end_] at *; omega),if_neg (by rw [hv]; decide),if_neg (by omega)]
  rw [hf,<- ht]
  congr 1
  simp only [Lg.end_] at h2
  rw [List.getD_eq_getElem?_getD,List.getD_eq_getElem?_getD,List.getElem?_append_left (by omega)]
theorem QmT (s:Sv) (hs:s.sm) (tx:Int):VCalls prog 149 [.agg s.d,.int .i64 tx] [] (QC boD fun _=>True):=by
  refine dd Tryz.func149 ?_
  have h4:=hs.1.2.2.2.1
  have c2:=QbG s.k.tx (Nat.le_trans h4.1 (by decide)) tx
  rcases Q7 s.k.tx tx with hn | ⟨i,hil,hid,_⟩
  · rw [hn] at c2
    (unfold Tryz.f149; refine rn trivial ?_)
    refine rn F ?_
    repeat' (first
      | with_reducible exact ⟨⟩
      | refine vp F (c2) ?_)
    all_goals exact ⟨rfl,rfl,_,rfl,trivial⟩
  rw [hid] at c2
  have hg:=QdN s.k.tx i hil
  (unfold Tryz.f149; refine rn trivial ?_)
  have F:=@hg
  refine rn F ?_
  repeat' (first
    | with_reducible exact ⟨⟩
    | refine vp F (c2) ?_)
  all_goals exact ⟨rfl,rfl,_,rfl,trivial⟩
def inP (l:List Fm) (a:Int):Nat:=if 0<=idF l a then 0 else 1
theorem QwY (l:List Fm) (a:Int):inP l a<=1:=by unfold inP; split<;>omega
def rbM (tx:Int) (s:Sv):Nat:=2 * (4096 - s.k.lg.es.length) + inP s.k.pl.fs (Qi2 s.k.tx s.k.lg tx).c.pg
theorem Qu4 {tx:Int} {s t:Sv} (h:s.k.lg.es.length < t.k.lg.es.length) (hl:t.k.lg.es.length<=4096):rbM tx t < rbM tx s:=by
  have:=QwY t.k.pl.fs (Qi2 t.k.tx t.k.lg tx).c.pg
  unfold rbM; omega
theorem Qm8 {tx:Int} {s t:Sv} (ev:Ev s.k.lg t.k.lg) (hx:t.k.tx = s.k.tx) (h0:(QdU s.k.lg (Qoy s.k.tx tx)).2 = 0) (h1:idF s.k.pl.fs (Qi2 s.k.tx s.k.lg tx).c.pg < 0) (h2:0<=idF t.k.pl.fs (Qi2 s.k.tx s.k.lg tx).c.pg):rbM tx t < rbM tx s:=by
  have hl:=ev.len
  have e:Qi2 t.k.tx t.k.lg tx = Qi2 s.k.tx s.k.lg tx:=by unfold Qi2; rw [hx,ev.get h0]
  unfold rbM
  rw [e]
  unfold inP
  rw [if_pos h2,if_neg (by omega)]
  omega
def evQ (s:Sv) (a:Sv × Int):Prop:=a.1.sm/\(a.2 = 0->Ev s.k.lg a.1.k.lg)
structure Re (s0:Sv) where
  s:Sv
  sm:s.sm
  ev:Ev s0.k.lg s.k.lg
theorem QlK (s:Sv) (hs:s.sm) (tx:Int):VCalls prog 150 [.agg s.d,.int .i64 tx] [] (QC svD (evQ s)):=by
  refine dk Tryz.func150 ?_
  have c1:=QW s.k hs.1
  have c2:=QbG s.k.tx (Nat.le_trans hs.1.2.2.2.1.1 (by decide)) tx
  have e0:∀ e,e ≠ 0->evQ s (Sv0,e):=fun e h=>⟨QcY,fun h2=>absurd h2 h⟩
  (unfold Tryz.f150; refine rn trivial ?_)
  refine rn F ?_
  repeat' (first
    | with_reducible exact ⟨⟩
    | (refine sB F ?_ ?_<;>intro hZ)
    | (refine Qj (c1) rfl ?_; rintro b -; refine rn F ?_)
    | refine vp F (c2) ?_)
  all_goals first
    | exact ⟨rfl,rfl,(Sv0,15),rfl,e0 _ (by decide)⟩
    | exact ⟨rfl,rfl,(Sv0,16),rfl,e0 _ (by decide)⟩
    | skip
  refine Qg (fun r:Re s=>⟨56,0,[(4,.ptr 1 0),(2,.ptr 0 0),(1,.int .i64 tx)],[⟨84,true,r.s.d⟩,⟨84,true,Zv⟩]⟩) (fun r=>rbM tx r.s) ⟨s,hs,Ev.refl _⟩ (gc [0,1]) ?_
  rintro ⟨s1,sm,ev⟩
  dsimp only
  unfold Zv
  have d1:=QmT s1 sm tx
  have d2:=QqK s1.k sm.1 tx
  have d3:=fun n=>Qec s1 sm n
  refine rn F ?_
  repeat' (first
    | with_reducible exact ⟨⟩
    | (refine sB F ?_ ?_<;>intro hZ)
    | (refine Qj (d1) rfl ?_; rintro b2 -; refine rn F ?_)
    | (refine Qj (d2) rfl ?_; rintro ⟨k1,r1⟩ hq; refine rn F ?_)
    | (refine Qj (d3 _) rfl ?_; rintro ⟨s2,e2⟩ hq2; refine rn F ?_)
    | (refine Qb (id:=10) [0,1,2] [⟨[],[],3,[1,2],[]⟩,⟨[],[],4,[],[]⟩] (by kernel_rfl) (by kernel_rfl) ?_; refine rn F ?_))
  all_goals first
    | exact ⟨rfl,rfl,(s1,0),rfl,sm,fun _=>ev⟩
    | exact ⟨rfl,rfl,(Sv0,e2),rfl,e0 _ (by assumption)⟩
    | exact ⟨rfl,rfl,(Sv0,r1.er),rfl,e0 _ (hq.2.2.2.2 (by assumption))⟩
    | skip
  · obtain ⟨v,_,g1,g2,g3⟩:=hq.2.2.1 (by first | assumption | omega)
    have q2:=hq2.2 (by dsimp only; omega)
    dsimp only at g1 g3 q2
    rw [g1] at g3 q2
    exact ⟨⟨s2,hq2.1,ev.trans q2.1⟩,Qm8 q2.1 q2.2.1 g2 g3 q2.2.2,(gc [0,1])⟩
  · have q:=hq.2.2.2.1 (by dsimp only; omega) (by dsimp only; omega)
    exact ⟨⟨⟨k1,s1.v⟩,⟨hq.1,sm.2⟩,ev.trans hq.2.1⟩,Qu4 q hq.1.1,(gc [0,1])⟩
end
section
attribute [local go_sem] QaZ
@[go_sem] def srD (a:Sv × Rs):DV:=.tup [.agg a.1.d,.agg a.2.d]
def QDP (s:Sv) (a:Sv × Rs):Prop:=a.1.sm/\Ev s.k.lg a.1.k.lg
def Zr:List DV:=[.int .i64 0,.int .i64 0,.int .i64 0,.bool false,.pv (.str []),.int .i64 0]
theorem QBf (s:Sv) (hs:s.sm) (tx:Int) (a:Ac):VCalls prog 117 [.agg s.d,.int .i64 tx,.agg a.d] [] (QC srD (QDP s)):=by
  refine dk Tryz.func117 ?_
  (unfold Tryz.f117; refine rn trivial ?_)
  refine Qg (fun r:Re s=>⟨79,0,[(7,.ptr 3 0),(6,.ptr 2 0),(5,.ptr 1 0),(3,.ptr 0 0),(1,.int .i64 tx)],[⟨84,true,r.s.d⟩,⟨141,true,a.d⟩,⟨84,true,Zv⟩,⟨138,true,Zr⟩]⟩) (fun r=>inP r.s.k.pl.fs a.pg) ⟨s,hs,Ev.refl _⟩ (gc [0,1,2,3]) ?_
  rintro ⟨s1,sm,ev⟩
  dsimp only
  unfold Zv Zr
  have d1:=QBl s1.k sm.1 tx a
  have d2:=fun (k:Kn) (hk:k.sm)=>Qec ⟨k,s1.v⟩ ⟨hk,sm.2⟩
  have d3:=fun (k:Kn) (hk:k.sm)=>QmT ⟨k,s1.v⟩ ⟨hk,sm.2⟩ tx
  have d4:=fun (k:Kn) (hk:k.sm)=>QlK ⟨k,s1.v⟩ ⟨hk,sm.2⟩ tx
  refine rn F ?_
  repeat' (first
    | with_reducible exact ⟨⟩
    | (refine sG F ?_ ?_<;>intro hZ)
    | (refine sB F ?_ ?_<;>intro hZ)
    | (refine Qj (d1) rfl ?_; rintro ⟨k1,r1⟩ hq; refine rn F ?_)
    | (refine Qj (d2 k1 hq.1 _) rfl ?_; rintro ⟨s2,e2⟩ hq2; refine rn F ?_)
    | refine vp F (Qac _) ?_
    | (refine Qj (d3 k1 hq.1) rfl ?_; rintro b -; refine rn F ?_)
    | (refine Qj (d4 k1 hq.1) rfl ?_; rintro ⟨s3,e3⟩ hq3; refine rn F ?_)
    | (refine Qb (id:=6) [0,1] [⟨[],[],2,[0],[]⟩,⟨[],[],3,[1],[]⟩,⟨[],[],4,[],[]⟩] (by kernel_rfl) (by kernel_rfl) ?_; refine rn F ?_)
    | (refine Qb (id:=12) [0,1] [⟨[],[],2,[0],[]⟩,⟨[],[],3,[1],[]⟩,⟨[],[],4,[],[]⟩] (by kernel_rfl) (by kernel_rfl) ?_; refine rn F ?_)
    | (refine Qb (id:=14) [0,1] [⟨[],[],2,[1],[]⟩,⟨[],[],3,[],[]⟩] (by kernel_rfl) (by kernel_rfl) ?_; refine rn F ?_))
  all_goals first
    | exact ⟨rfl,rfl,(⟨k1,s1.v⟩,QaC _),rfl,⟨hq.1,sm.2⟩,ev.trans hq.2.1⟩
    | exact ⟨rfl,rfl,(⟨k1,s1.v⟩,r1),rfl,⟨hq.1,sm.2⟩,ev.trans hq.2.1⟩
    | (have q3:=hq3.2 (by dsimp only; omega)
       exact ⟨rfl,rfl,(s3,r1),rfl,hq3.1,(ev.trans hq.2.1).trans q3⟩)
    | skip
  obtain ⟨g1,g2,g3⟩:=hq.2.2 (by first | assumption | (dsimp only; omega))
  have q2:=hq2.2 (by dsimp only; omega)
  dsimp only at g1 g2 g3 q2
  rw [g2] at q2
  refine ⟨⟨s2,hq2.1,(ev.trans hq.2.1).trans q2.1⟩,?_,(gc [0,1,2,3])⟩
  unfold inP
  dsimp only
  rw [if_pos q2.2.2,if_neg (by omega)]
  omega
@[go_sem] def QDN (a:Sv × Int × Int):DV:=.tup [.agg a.1.d,.int .i64 a.2.1,.int .i64 a.2.2]
theorem QqP (s:Sv) (hs:s.sm):VCalls prog 89 [.agg s.d] [] (QC QDN fun a=>a.1.sm/\(a.2.2 = 0->Ev s.k.lg a.1.k.lg)):=by
  refine dk Tryz.func89 ?_
  have c1:=Qq4 s.k hs.1
  (unfold Tryz.f89; refine rn trivial ?_)
  refine rn F ?_
  repeat' (first
    | with_reducible exact ⟨⟩
    | (refine sB F ?_ ?_<;>intro hZ)
    | (refine Qj (c1) rfl ?_; rintro ⟨k1,n1,e1⟩ hq; refine rn F ?_))
  all_goals first
    | exact ⟨rfl,rfl,(Sv0,0,e1),rfl,QcY,fun h=>absurd h (by assumption)⟩
    | exact ⟨rfl,rfl,(⟨k1,s.v⟩,n1,0),rfl,⟨hq.1,hs.2⟩,fun _=>by have q:=(hq.2 (by dsimp only; omega)).2.2; dsimp only at q; subst q; exact Ev.refl _⟩
    | skip
theorem mkR:∀ n:Nat,V.mk [.pv (.lit (.int .i64 0)),.pv (.lit (.int .i64 0)),.pv (.lit (.int .i64 0))] n = cells QbN (List.replicate n Rw0)
  | 0=>rfl
  | n + 1=>by
    show _ ++ V.mk _ n = _
    rw [mkR n,List.replicate_succ]; rfl
theorem QmY (n:Int):VCalls prog 86 [.int .i64 n] [] (QC (fun a:List Rw × Int=>.tup [.agg [.pv (.sl (fz QbN a.1))],.int .i64 a.2]) fun a=>a.1.length<=64):=by
  refine dk Tryz.func86 ?_
  (unfold Tryz.f86; refine rn trivial ?_)
  refine rn F ?_
  repeat' (first
    | with_reducible exact ⟨⟩
    | (refine sG F ?_ ?_<;>intro hZ)
    | (refine sB F ?_ ?_<;>intro hZ))
  all_goals first
    | exact ⟨rfl,rfl,([],1),rfl,Nat.zero_le _⟩
    | skip
  obtain ⟨m,rfl⟩:∃ m:Nat,n = m:=⟨n.toNat,by omega⟩
  have hc:((0:Int)<=(m:Int)/\(m:Int)<=(m:Int)/\((24:Nat):Int) * (m:Int)<=281474976710656/\(m:Int)<=9223372036854775807) = True:=eq_true ⟨by omega,by omega,by omega,by omega⟩
  have hmk:=mkR m
  have hlr:(List.replicate m Rw0).length = m:=List.length_replicate
  refine rn (And.intro @hc (And.intro @hmk @hlr)) ?_
  exact ⟨rfl,rfl,(List.replicate m Rw0,0),rfl,by dsimp only; rw [hlr]; omega⟩
end
section
attribute [local go_sem] QaZ
def Lg1:Lg:=⟨1,[],0⟩
theorem QCw:lgB Lg1 = true:=by decide
theorem Qyx:VCalls prog 87 [] [] (Ret (.agg Lg1.c)):=by
  refine dk Tryz.func87 ?_
  (unfold Tryz.f87; refine rn trivial ?_)
  rfl
theorem Qnc (n:Int):(QlV n).1.fs = []:=by unfold QlV; split<;>rfl
theorem QqL (s:Sv) (hs:s.sm) (n:Int):VCalls prog 92 [.agg s.d,.int .i64 n] [] (QC svD (evQ s)):=by
  refine dk Tryz.func92 ?_
  have c1:=QuU s.k hs.1 n
  have c2:=Qcb s.k.pl (Nat.le_trans hs.1.2.1 (by decide)) n
  have c3:=fun k hk x=>QmQ s hs.2 k hk x
  have e0:∀ e,e ≠ 0->evQ s (Sv0,e):=fun e h=>⟨QcY,fun h2=>absurd h2 h⟩
  (unfold Tryz.f92; refine rn trivial ?_)
  refine Qj c1 rfl ?_
  rintro ⟨k1,x,e⟩ hq
  by_cases he:e = 0
  rotate_left
  · skip
    have F:=@he
    refine rn F ?_
    exact ⟨rfl,rfl,(Sv0,e),rfl,e0 _ he⟩
  have q:=hq.2 he
  subst he
  rcases Qcg s.k.pl n with hn | ⟨_,i,hi,hfi,_⟩
  · have:=q.2; omega
  rw [hfi] at c2
  have hg:=QbA s.k.pl.fs i hi
  generalize s.k.pl.fs.getD i Fm0 = f at *
  have F:=@hg
  refine rn F ?_
  repeat' (first
    | with_reducible exact ⟨⟩
    | (refine sB F ?_ ?_<;>intro hZ)
    | refine vp F (c2) ?_
    | (refine Qj (c3 k1 hq.1 x) rfl ?_; rintro ⟨s2,e2⟩ hq2; refine rn F ?_)
    | (refine Qb (id:=4) [0,1,2,3,4,5,6,7] [⟨[],[],8,[0,1,2,3,4,5],[9,10,11,12]⟩] (by kernel_rfl) (by kernel_rfl) ?_; refine rn F ?_))
  all_goals first
    | exact ⟨rfl,rfl,(s,0),rfl,hs,fun _=>Ev.refl _⟩
    | exact ⟨rfl,rfl,(s2,e2),rfl,hq2.1,fun h=>q.1.trans (hq2.2 h).1⟩
    | skip
end
section
attribute [local go_sem] QaZ
@[go_sem] def tbD (a:Tx × Bool):DV:=.tup [.agg a.1.d,.bool a.2]
theorem Qka (k:Kn) (h:k.sm) (tx:Int):VCalls prog 141 [.agg k.d,.int .i64 tx] [] (QC tbD fun _=>True):=by
  refine dk Tryz.func141 ?_
  have c1:=QW k h
  have c2:=QbG k.tx (Nat.le_trans h.2.2.2.1.1 (by decide)) tx
  rcases Q7 k.tx tx with hn | ⟨i,hil,hid,_⟩
  · rw [hn] at c2
    (unfold Tryz.f141; refine rn trivial ?_)
    refine rn F ?_
    repeat' (first
      | with_reducible exact ⟨⟩
      | (refine sB F ?_ ?_<;>intro hZ)
      | (refine Qj (c1) rfl ?_; rintro b -; refine rn F ?_)
      | refine vp F (c2) ?_)
    all_goals exact ⟨rfl,rfl,(Tx0,false),rfl,trivial⟩
  rw [hid] at c2
  have hg:=QdN k.tx i hil
  (unfold Tryz.f141; refine rn trivial ?_)
  have F:=@hg
  refine rn F ?_
  repeat' (first
    | with_reducible exact ⟨⟩
    | (refine sB F ?_ ?_<;>intro hZ)
    | (refine Qj (c1) rfl ?_; rintro b hb; refine rn F ?_)
    | refine vp F (c2) ?_)
  all_goals first
    | exact ⟨rfl,rfl,(k.tx.getD i Tx0,true),rfl,trivial⟩
    | exact ⟨rfl,rfl,(Tx0,false),rfl,trivial⟩
    | skip
@[go_sem] def QEE (a:Int × Int × Int × Bool):DV:=.tup [.int .i64 a.1,.agg [.int .i64 a.2.1,.int .i64 a.2.2.1],.bool a.2.2.2]
theorem Qon (k:Kn) (h:k.sm) (tx:Int):VCalls prog 118 [.agg k.d,.int .i64 tx] [] (QC QEE fun _=>True):=by
  refine dk Tryz.func118 ?_
  have h3:=h.2.2.1
  have c1:=Qc6 k.lk (by omega) tx
  have c2:=Qm1 k.lk (by omega) tx
  have c3:=fun n=>Qka k h n
  (unfold Tryz.f118; refine rn trivial ?_)
  refine rn F ?_
  repeat' (first
    | with_reducible exact ⟨⟩
    | (refine sB F ?_ ?_<;>intro hZ)
    | (refine Qj (c1) rfl ?_; rintro ⟨g,b⟩ -; refine rn F ?_)
    | (refine Qj (c2) rfl ?_; rintro l hl; refine rn F ?_))
  all_goals first
    | exact ⟨rfl,rfl,(0,0,0,false),rfl,trivial⟩
    | skip
  refine Qg (fun s:To l.length=>⟨44,0,[(28,.int .i64 s.i),(27,.int .i64 l.length),(26,.pv (.sl (fz QN l))),(7,.ptr 2 0),(5,.ptr 1 0),(2,.ptr 0 0)],[⟨41,true,k.d⟩,⟨197,true,[.int .i64 0,.int .i64 0]⟩,⟨222,true,g.d⟩]⟩) (fun s=>l.length - s.i) ⟨0,Nat.zero_le _⟩ (gc [0,1,2]) ?_
  rintro ⟨i,hi⟩
  dsimp only
  have hx:=fun h:i < l.length=>QX l i h
  have F:=@hx
  refine rn F ?_
  repeat' (first
    | with_reducible exact ⟨⟩
    | (refine sB F ?_ ?_<;>intro hZ)
    | (refine Qj (c3 _) rfl ?_; rintro ⟨t,b3⟩ -; refine rn F ?_)
    | (refine Qb (id:=9) [0,1,2] [⟨[],[],3,[1,2],[]⟩,⟨[],[],4,[],[]⟩,⟨[],[],5,[],[]⟩] (by kernel_rfl) (by kernel_rfl) ?_; refine rn F ?_))
  all_goals first
    | exact ⟨rfl,rfl,(_,g.pg,g.sl,true),rfl,trivial⟩
    | exact ⟨rfl,rfl,(0,0,0,false),rfl,trivial⟩
    | exact ⟨⟨i + 1,by omega⟩,by dsimp only; omega,(gc [0,1,2])⟩
    | skip
theorem QuK (k:Kn) (h:k.sm):VCalls prog 113 [.agg k.d] [] (QC ilD fun l=>l.length<=65):=by
  refine dk Tryz.func113 ?_
  have h4:=h.2.2.2.1.1
  have c3:=fun n=>Qka k h n
  (unfold Tryz.f113; refine rn trivial ?_)
  refine VLoop.nilOwn 3 3 1 rfl ?_
  refine rn trivial ?_
  refine Qg (fun s:{s:Nat × List Int // s.1<=k.tx.length/\s.2.length<=s.1}=>⟨36,0,[(4,.int .i64 s.1.1),(3,.own 1 1 0 s.1.2.length),(1,.ptr 0 0)],[⟨41,true,k.d⟩,⟨3,true,cells QN s.1.2⟩]⟩) (fun s=>k.tx.length - s.1.1) ⟨(0,[]),by simp⟩ (gc [0,1]) ?_
  rintro ⟨⟨i,out⟩,hi,ho⟩
  dsimp only at hi ho |-
  have hg:=fun h:i < k.tx.length=>QdN k.tx i h
  have hb:(out.length + 1) * 8<=140737488355328:=by omega
  have F:=(And.intro @hg @hb)
  refine rn F ?_
  repeat' (first
    | with_reducible exact ⟨⟩
    | (refine sB F ?_ ?_<;>intro hZ)
    | (refine Qj (c3 _) rfl ?_; rintro ⟨t,b3⟩ -; refine rn F ?_)
    | (refine Qb (id:=5) [0,1,2,3,4,5,6] [⟨[11],[],7,[1,2,3,4,5],[8,9,10]⟩,⟨[11],[11],12,[10],[]⟩,⟨[],[],13,[],[]⟩] (by kernel_rfl) (by kernel_rfl) ?_; refine rn F ?_))
  all_goals first
    | exact ⟨rfl,rfl,out,rfl,by omega⟩
    | exact ⟨⟨(i + 1,out),by dsimp only; omega,by dsimp only; omega⟩,by dsimp only; omega,(gc [0,1])⟩
    | exact ⟨⟨(i + 1,out ++ [(k.tx.getD i Tx0).id]),by dsimp only; omega,by simp; omega⟩,by dsimp only; omega,by dsimp only; rw [List.length_append]; exact (gc [0,4])⟩
    | skip
@[go_sem] def QEj (a:Sv × Nat × Int):DV:=.tup [.agg a.1.d,.int .i64 a.2.1,.int .i64 a.2.2]
def ceQ (s:Sv) (a:Sv × Nat × Int):Prop:=a.1.sm/\Ev s.k.lg a.1.k.lg/\a.2.1 + s.k.lg.es.length<=a.1.k.lg.es.length
structure Rn (s0:Sv) where
  s:Sv
  n:Nat
  sm:s.sm
  ev:Ev s0.k.lg s.k.lg
  up:n + s0.k.lg.es.length<=s.k.lg.es.length
theorem Quy (s:Sv) (hs:s.sm) (tx pg sl:Int):VCalls prog 119 [.agg s.d,.int .i64 tx,.agg [.int .i64 pg,.int .i64 sl]] [] (QC QEj (ceQ s)):=by
  refine dk Tryz.func119 ?_
  (unfold Tryz.f119; refine rn trivial ?_)
  refine Qg (fun r:Rn s=>⟨57,0,[(9,.int .i64 r.n),(6,.ptr 2 0),(5,.ptr 1 0),(3,.ptr 0 0),(1,.int .i64 tx)],[⟨84,true,r.s.d⟩,⟨197,true,[.int .i64 pg,.int .i64 sl]⟩,⟨84,true,Zv⟩]⟩) (fun r=>2 * (4096 - r.s.k.lg.es.length) + inP r.s.k.pl.fs pg) ⟨s,0,hs,Ev.refl _,by omega⟩ (gc [0,1,2]) ?_
  rintro ⟨s1,n,sm,ev,up⟩
  have hle:=sm.1.1
  dsimp only
  unfold Zv
  have d1:=QyF s1.k sm.1 tx pg sl
  have d2:=fun p=>Qec s1 sm p
  refine rn F ?_
  repeat' (first
    | with_reducible exact ⟨⟩
    | (refine sB F ?_ ?_<;>intro hZ)
    | (refine Qj (d1) rfl ?_; rintro ⟨k1,r1⟩ hq; refine rn F ?_)
    | (refine Qj (d2 _) rfl ?_; rintro ⟨s2,e2⟩ hq2; refine rn F ?_)
    | (refine Qb (id:=6) [0,1,2,3] [⟨[],[],4,[1,2,3],[]⟩,⟨[],[],5,[2,3],[]⟩,⟨[],[],6,[],[]⟩] (by kernel_rfl) (by kernel_rfl) ?_; refine rn F ?_))
  all_goals first
    | exact ⟨rfl,rfl,(s1,n,_),rfl,sm,ev,up⟩
    | skip
  · obtain ⟨g1,g2,g3⟩:=hq.2.2.1 (by first | assumption | (dsimp only; omega))
    have q2:=hq2.2 (by dsimp only; omega)
    dsimp only at g1 g2 g3 q2
    rw [g2] at q2
    have hl:=q2.1.len
    refine ⟨⟨s2,n,hq2.1,ev.trans q2.1,by omega⟩,?_,(gc [0,1,2])⟩
    unfold inP
    dsimp only
    rw [if_pos q2.2.2,if_neg (by omega)]
    omega
  · have q:=hq.2.2.2 (by dsimp only; omega) (by dsimp only; omega) (by dsimp only; omega)
    have hk:=hq.1.1
    have h1:=QwY k1.pl.fs pg
    dsimp only at q hk
    exact ⟨⟨⟨k1,s1.v⟩,n + 1,⟨hq.1,sm.2⟩,ev.trans hq.2.1,by dsimp only; omega⟩,by dsimp only; omega,(gc [0,1,2])⟩
end
section
attribute [local go_sem] QaZ
theorem QBn (s:Sv) (hs:s.sm) (tx:Int) (a:Ac):VCalls prog 104 [.agg s.d,.int .i64 tx,.agg a.d] [] (QC srD (QDP s)):=by
  refine dk Tryz.func104 ?_
  (unfold Tryz.f104; refine rn trivial ?_)
  refine Qg (fun r:Re s=>⟨58,0,[(7,.ptr 3 0),(6,.ptr 2 0),(5,.ptr 1 0),(3,.ptr 0 0),(1,.int .i64 tx)],[⟨84,true,r.s.d⟩,⟨141,true,a.d⟩,⟨84,true,Zv⟩,⟨138,true,Zr⟩]⟩) (fun r=>4096 - r.s.k.lg.es.length) ⟨s,hs,Ev.refl _⟩ (gc [0,1,2,3]) ?_
  rintro ⟨s1,sm,ev⟩
  dsimp only
  unfold Zv Zr
  have d1:=QBf s1 sm tx a
  have d2:=fun (t:Sv) (h:t.sm)=>Qon t.k h.1 tx
  have d3:=fun (t:Sv) (h:t.sm)=>Quy t h
  refine rn F ?_
  repeat' (first
    | with_reducible exact ⟨⟩
    | (refine sB F ?_ ?_<;>intro hZ)
    | (refine Qj (d1) rfl ?_; rintro ⟨s2,r2⟩ hq; refine rn F ?_)
    | (refine Qj (d2 s2 hq.1) rfl ?_; rintro ⟨x,p,q,b⟩ -; refine rn F ?_)
    | (refine Qj (d3 s2 hq.1 _ _ _) rfl ?_; rintro ⟨s3,n,e3⟩ hq3; refine rn F ?_)
    | refine vp F (Qac _) ?_
    | (refine Qb (id:=4) [0,1] [⟨[],[],2,[1],[]⟩,⟨[],[],3,[],[]⟩] (by kernel_rfl) (by kernel_rfl) ?_; refine rn F ?_)
    | (refine Qb (id:=7) [0,1] [⟨[],[],2,[1],[]⟩,⟨[],[],3,[],[]⟩] (by kernel_rfl) (by kernel_rfl) ?_; refine rn F ?_)
    | (refine Qb (id:=11) [0,1] [⟨[],[],2,[0],[]⟩,⟨[],[],3,[1],[]⟩,⟨[],[],4,[],[]⟩] (by kernel_rfl) (by kernel_rfl) ?_; refine rn F ?_)
    | (refine Qb (id:=13) [0,1] [⟨[],[],2,[1],[]⟩,⟨[],[],3,[],[]⟩] (by kernel_rfl) (by kernel_rfl) ?_; refine rn F ?_))
  all_goals first
    | exact ⟨rfl,rfl,(s2,r2),rfl,hq.1,ev.trans hq.2⟩
    | exact ⟨rfl,rfl,(s3,QaC e3),rfl,hq3.1,(ev.trans hq.2).trans hq3.2.1⟩
    | exact ⟨rfl,rfl,(s3,r2),rfl,hq3.1,(ev.trans hq.2).trans hq3.2.1⟩
    | skip
  have h1:=hq.2.len
  have h2:=hq3.2.2
  have h3:=hq3.1.1.1
  dsimp only at h1 h2 h3
  exact ⟨⟨s3,hq3.1,(ev.trans hq.2).trans hq3.2.1⟩,by dsimp only; omega,(gc [0,1,2,3])⟩
@[go_sem] def QEo (a:Sv × Bool × Int):DV:=.tup [.agg a.1.d,.bool a.2.1,.int .i64 a.2.2]
def wkQ (s:Sv) (a:Sv × Bool × Int):Prop:=a.1.sm/\(a.2.2 = 0->Ev s.k.lg a.1.k.lg)
theorem Qyc (s:Sv) (hs:s.sm):VCalls prog 96 [.agg s.d] [] (QC QEo (wkQ s)):=by
  refine dk Tryz.func96 ?_
  have c1:=QW s.k hs.1
  have c2:=fun n=>Qec s hs n
  have c3:=QuK s.k hs.1
  have hg:=fun h:0 < s.k.la.length=>Qfi s.k.la 0 h
  have e0:∀ e,e ≠ 0->wkQ s (Sv0,false,e):=fun e h=>⟨QcY,fun h2=>absurd h2 h⟩
  (unfold Tryz.f96; refine rn trivial ?_)
  have F:=@hg
  refine rn F ?_
  repeat' (first
    | with_reducible exact ⟨⟩
    | (refine sB F ?_ ?_<;>intro hZ)
    | (refine Qj (c1) rfl ?_; rintro b -; refine rn F ?_)
    | (refine Qj (c2 _) rfl ?_; rintro ⟨s2,e2⟩ hq; refine rn F ?_)
    | (refine Qj (c3) rfl ?_; rintro l hl; refine rn F ?_)
    | (refine Qb (id:=4) [0,1,2,3,4,5,6] [⟨[11],[],7,[1,2,3,4,5],[8,9,10]⟩,⟨[11],[11],12,[10],[]⟩,⟨[],[],13,[],[]⟩] (by kernel_rfl) (by kernel_rfl) ?_; refine rn F ?_))
  all_goals first
    | exact ⟨rfl,rfl,(Sv0,false,15),rfl,e0 _ (by decide)⟩
    | exact ⟨rfl,rfl,(s,false,0),rfl,hs,fun _=>Ev.refl _⟩
    | exact ⟨rfl,rfl,(s2,_,e2),rfl,hq.1,fun h=>(hq.2 h).1⟩
    | skip
  have hg0:=fun h:0 < l.length=>QX l 0 h
  generalize l.getD 0 0 = tx at *
  refine Qg (fun r:Re s=>⟨77,0,[(7,.pv (.sl (fz QN l))),(2,.ptr 1 0),(1,.ptr 0 0)],[⟨84,true,r.s.d⟩,⟨84,true,Zv⟩]⟩) (fun r=>rbM tx r.s) ⟨s,hs,Ev.refl _⟩ (gc [0,1]) ?_
  rintro ⟨s1,sm,ev⟩
  dsimp only
  unfold Zv
  have d2:=QqK s1.k sm.1 tx
  have d3:=fun n=>Qec s1 sm n
  have F:=@hg0
  refine rn F ?_
  repeat' (first
    | with_reducible exact ⟨⟩
    | (refine sB F ?_ ?_<;>intro hZ)
    | (refine Qj (d2) rfl ?_; rintro ⟨k1,r1⟩ hq; refine rn F ?_)
    | (refine Qj (d3 _) rfl ?_; rintro ⟨s2,e2⟩ hq2; refine rn F ?_)
    | (refine Qb (id:=9) [0,1,2,3,4] [⟨[9,10],[],5,[0,2,3],[6,7,8]⟩,⟨[9,10],[9],11,[8],[]⟩,⟨[10],[10],12,[],[]⟩] (by kernel_rfl) (by kernel_rfl) ?_; refine rn F ?_)
    | (refine Qb (id:=11) [0,1,2] [⟨[],[],3,[1,2],[]⟩,⟨[],[],4,[1,2],[]⟩,⟨[],[],5,[],[]⟩] (by kernel_rfl) (by kernel_rfl) ?_; refine rn F ?_))
  all_goals first
    | exact ⟨rfl,rfl,(Sv0,false,e2),rfl,e0 _ (by assumption)⟩
    | exact ⟨rfl,rfl,(Sv0,false,r1.er),rfl,e0 _ (hq.2.2.2.2 (by assumption))⟩
    | exact ⟨rfl,rfl,(⟨k1,s1.v⟩,true,0),rfl,⟨hq.1,sm.2⟩,fun _=>ev.trans hq.2.1⟩
    | skip
  obtain ⟨v,_,g1,g2,g3⟩:=hq.2.2.1 (by first | assumption | (dsimp only; omega))
  have q2:=hq2.2 (by dsimp only; omega)
  dsimp only at g1 g3 q2
  rw [g1] at g3 q2
  exact ⟨⟨s2,hq2.1,ev.trans q2.1⟩,Qm8 q2.1 q2.2.1 g2 g3 q2.2.2,(gc [0,1])⟩
end
@[go_sem] def stD (s:List UInt8):DV:=.pv (.str s)
theorem QmU (s:List UInt8) (hs:s.length<=1000000000) (n:Int) (k:Nat) (h1:1<=k) (h8:k<=8):VCalls prog 156 [.pv (.str s),.int .i64 n,.int .i64 k] [] (QC stD fun t=>t.length = s.length + k):=
  (QbT s hs n k h1 h8).toS (Qan s n k) rfl (Qo s n k)
theorem QuD (s:List UInt8) (hs:s.length<=1000000000) (n:Int):VCalls prog 156 [.pv (.str s),.int .i64 n,.int .i64 1] [] (QC stD fun t=>t.length = s.length + 1):=QmU s hs n 1 (by omega) (by omega)
theorem QuC (s:List UInt8) (hs:s.length<=1000000000) (n:Int):VCalls prog 156 [.pv (.str s),.int .i64 n,.int .i64 2] [] (QC stD fun t=>t.length = s.length + 2):=QmU s hs n 2 (by omega) (by omega)
theorem Qyn (s:List UInt8) (hs:s.length<=1000000000) (n:Int):VCalls prog 156 [.pv (.str s),.int .i64 n,.int .i64 4] [] (QC stD fun t=>t.length = s.length + 4):=QmU s hs n 4 (by omega) (by omega)
theorem Qj6 (s:List UInt8) (hs:s.length<=1000000000) (n:Int):VCalls prog 156 [.pv (.str s),.int .i64 n,.int .i64 8] [] (QC stD fun t=>t.length = s.length + 8):=QmU s hs n 8 (by omega) (by omega)
theorem QhX (s:List UInt8) (hs:s.length<=800000000) (l:List Int) (hl:l.length<=100000):VCalls prog 209 [.pv (.str s),.pv (.sl (fz QN l))] [] (QC stD fun t=>t.length<=s.length + 800000):=by
  refine dd Tryz.func209 ?_
  (unfold Tryz.f209; refine rn trivial ?_)
  refine Qg (fun r:{r:Nat × List UInt8 // r.1<=l.length/\r.2.length = s.length + 8 * r.1}=>⟨19,0,[(5,.int .i64 r.1.1),(1,.pv (.sl (fz QN l))),(0,.pv (.str r.1.2))],[]⟩) (fun r=>l.length - r.1.1) ⟨(0,s),by simp⟩ (gc []) ?_
  rintro ⟨⟨i,t⟩,hi,ht⟩
  dsimp only at hi ht |-
  have hg:=fun h:i < l.length=>QX l i h
  have c1:=Qj6 t (by omega)
  have F:=@hg
  refine rn F ?_
  repeat' (first
    | with_reducible exact ⟨⟩
    | (refine sB F ?_ ?_<;>intro hZ)
    | (refine Qj (c1 _) rfl ?_; rintro u hu; refine rn F ?_))
  all_goals first
    | exact ⟨⟨(i + 1,u),by dsimp only; omega,by dsimp only; omega⟩,by dsimp only; omega,(gc [])⟩
    | exact ⟨rfl,rfl,t,rfl,by omega⟩
    | skip
theorem Qyf (l:List Tx) (hl:smN 65 l):VCalls prog 166 [.pv (.sl (fz Qae l))] [] (QC siD fun a=>a.1.length<=200000000):=by
  refine dd Tryz.func166 ?_
  have c1:=Qbs l (hl.smL (by omega))
  have h1:=hl.1
  have c2:=QuC [] (by simp)
  generalize QdF l = b at *
  (unfold Tryz.f166; refine rn trivial ?_)
  refine rn F ?_
  repeat' (first
    | with_reducible exact ⟨⟩
    | (refine sB F ?_ ?_<;>intro hZ)
    | refine vp F (c1) ?_
    | (refine Qj (c2 _) rfl ?_; rintro u hu; refine rn F ?_))
  all_goals first
    | exact ⟨rfl,rfl,([],15),rfl,by simp⟩
    | skip
  refine Qg (fun r:{r:Nat × List UInt8 // r.1<=l.length/\r.2.length<=2 + 1600024 * r.1}=>⟨56,0,[(5,.int .i64 r.1.1),(4,.pv (.str r.1.2)),(0,.pv (.sl (fz Qae l)))],[]⟩) (fun r=>l.length - r.1.1) ⟨(0,u),by simp at hu |-; omega⟩ (gc []) ?_
  rintro ⟨⟨i,t⟩,hi,ht⟩
  dsimp only at hi ht |-
  have hg:=fun h:i < l.length=>QdN l i h
  have hss:i < l.length->(l.getD i Tx0).l.length<=100000/\(l.getD i Tx0).s.length<=100000:=fun h=>by rw [Qk _ _ h]; exact hl.2 _ (List.getElem_mem h)
  generalize l.getD i Tx0 = x at *
  by_cases hil:i < l.length
  rotate_left
  · skip
    have F:=@hg
    refine rn F ?_
    exact ⟨rfl,rfl,(t,0),rfl,by dsimp only; omega⟩
  obtain ⟨s1,s2⟩:=hss hil
  have F:=@hg
  refine rn F ?_
  repeat' (first
    | with_reducible exact ⟨⟩
    | (refine Qj (Qyn t (by omega) x.id) rfl ?_; rintro u1 hu1; refine rn F ?_)
    | (refine Qj (QuD u1 (by omega) x.st) rfl ?_; rintro u2 hu2; refine rn F ?_)
    | (refine Qj (Qj6 u2 (by omega) x.n) rfl ?_; rintro u3 hu3; refine rn F ?_)
    | (refine Qj (Qj6 u3 (by omega) x.b) rfl ?_; rintro u4 hu4; refine rn F ?_)
    | (refine Qj (QuC u4 (by omega) _) rfl ?_; rintro u5 hu5; refine rn F ?_)
    | (refine Qj (QhX u5 (by omega) x.l s1) rfl ?_; rintro u6 hu6; refine rn F ?_)
    | (refine Qj (QuD u6 (by omega) x.s.length) rfl ?_; rintro u7 hu7; refine rn F ?_)
    | (refine Qj (QhX u7 (by omega) x.s s2) rfl ?_; rintro u8 hu8; refine rn F ?_)
    | (refine Qb (id:=12) [0,1,2,3,5,6] [⟨[],[],4,[1,2,5,6],[]⟩,⟨[],[],7,[0,1,2,3,5],[]⟩,⟨[],[],8,[],[]⟩] (by kernel_rfl) (by kernel_rfl) ?_; refine rn F ?_)
    | (refine Qb (id:=13) [0,1,2,3,5,6] [⟨[],[],4,[1,2,5,6],[]⟩,⟨[],[],7,[0,1,2,3,5],[]⟩,⟨[],[],8,[],[]⟩] (by kernel_rfl) (by kernel_rfl) ?_; refine rn F ?_))
  all_goals first
    | exact ⟨⟨(i + 1,u8),hil,Nat.le_trans (show u8.length<=(2 + 1600024 * i) + 1600024 by omega) (by rw [Nat.mul_succ]; exact Nat.le_of_eq (Nat.add_assoc _ _ _))⟩,by dsimp only; omega,(gc [])⟩
    | skip
theorem QuP (l:List Rw) (hl:l.length<=64):VCalls prog 167 [.agg [.pv (.sl (fz QbN l))]] [] (QC siD fun a=>a.1.length<=2000):=by
  refine dd Tryz.func167 ?_
  have c1:=QaV l (by omega)
  have c2:=QuC [] (by simp)
  generalize ixB l = b at *
  (unfold Tryz.f167; refine rn trivial ?_)
  refine rn F ?_
  repeat' (first
    | with_reducible exact ⟨⟩
    | (refine sB F ?_ ?_<;>intro hZ)
    | refine vp F (c1) ?_
    | (refine Qj (c2 _) rfl ?_; rintro u hu; refine rn F ?_))
  all_goals first
    | exact ⟨rfl,rfl,([],28),rfl,by simp⟩
    | skip
  refine Qg (fun r:{r:Nat × List UInt8 // r.1<=l.length/\r.2.length<=2 + 24 * r.1}=>⟨45,0,[(5,.int .i64 r.1.1),(4,.pv (.str r.1.2)),(1,.ptr 0 0)],[⟨38,true,[.pv (.sl (fz QbN l))]⟩]⟩) (fun r=>l.length - r.1.1) ⟨(0,u),by simp at hu |-; omega⟩ (gc [0]) ?_
  rintro ⟨⟨i,t⟩,hi,ht⟩
  dsimp only at hi ht |-
  have hg:=fun h:i < l.length=>QkN l i h
  generalize l.getD i Rw0 = x at *
  have F:=@hg
  refine rn F ?_
  repeat' (first
    | with_reducible exact ⟨⟩
    | (refine sB F ?_ ?_<;>intro hZ)
    | (refine Qj (Qj6 t (by omega) x.lsn) rfl ?_; rintro u1 hu1; refine rn F ?_)
    | (refine Qj (Qj6 u1 (by omega) x.im) rfl ?_; rintro u2 hu2; refine rn F ?_)
    | (refine Qj (Qj6 u2 (by omega) x.at_) rfl ?_; rintro u3 hu3; refine rn F ?_))
  all_goals first
    | exact ⟨⟨(i + 1,u3),by dsimp only; omega,by dsimp only; omega⟩,by dsimp only; omega,(gc [0])⟩
    | exact ⟨rfl,rfl,(t,0),rfl,by dsimp only; omega⟩
    | skip
section
attribute [local go_sem] Qbc
structure Cp where
  pg:Int
  nx:Int
  tx:List Tx
  dl:List Dt
  ix:List Rw
@[go_sem] def Cp.d (c:Cp):List DV:=[.int .i64 c.pg,.int .i64 c.nx,.pv (.sl (fz Qae c.tx)),.pv (.sl (fz Qdm c.dl)),.pv (.sl (fz QbN c.ix))]
def Cp0:Cp:=⟨0,0,[],[],[]⟩
def Cp.sm (c:Cp):Prop:=smN 65 c.tx/\c.dl.length<=10000/\c.ix.length<=64
theorem QCz:Cp0.sm:=⟨QQ _,by decide,by decide⟩
@[go_sem] def QD0 (a:Cp × Int):DV:=.tup [.agg a.1.d,.int .i64 a.2]
def Zc:List DV:=[.int .i64 0,.int .i64 0,.pv (.slc []),.pv (.slc []),.pv (.slc [])]
theorem QyD (k:Kn) (h:k.sm):VCalls prog 127 [.agg k.d] [] (QC QD0 fun a=>a.1.sm):=by
  refine dk Tryz.func127 ?_
  have c1:=QW k h
  obtain ⟨h1,h2,h3,h4,h5,h6⟩:=h
  have c2:=fun n=>QfK k (by omega) n
  have c3:=QqS k.pl (by omega)
  (unfold Tryz.f127; refine rn trivial ?_)
  refine Qj c1 rfl ?_
  rintro b hb
  cases b
  · skip
    refine rn F ?_
    exact ⟨rfl,rfl,(Cp0,15),rfl,QCz⟩
  have hv:=(hb rfl).1
  refine rn F ?_
  refine VLoop.nilOwnC 2 3 190 3 rfl rfl ?_
  refine rn trivial ?_
  refine Qg (fun s:{s:Nat × List Dt // s.1<=64/\s.2.length<=65 * s.1}=>⟨62,0,[(5,.int .i64 s.1.1),(4,.ptr 2 0),(2,.ptr 1 0),(1,.ptr 0 0)],[⟨41,true,k.d⟩,⟨210,true,Zc⟩,⟨210,true,[.int .i64 k.pg,.int .i64 k.nx,.pv (.sl (fz Qae k.tx)),.own 3 3 0 s.1.2.length,.pv (.sl (fz QbN k.ix))]⟩,⟨190,true,cells Qdm s.1.2⟩]⟩) (fun s=>64 - s.1.1) ⟨(0,[]),by simp⟩ (gc [0,1,2,3]) ?_
  rintro ⟨⟨i,out⟩,hi,ho⟩
  dsimp only at hi ho |-
  unfold Zc
  have hb1:(out.length + 1) * 24<=140737488355328:=by omega
  have F:=@hb1
  refine rn F ?_
  repeat' (first
    | with_reducible exact ⟨⟩
    | (refine sB F ?_ ?_<;>intro hZ)
    | (refine Qj (c2 _) rfl ?_; rintro ⟨d,b2⟩ -; refine rn F ?_)
    | (refine Qj (c3) rfl ?_; rintro l hl; refine rn F ?_))
  rotate_left 2
  · exact ⟨rfl,rfl,(⟨k.pg,k.nx,k.tx,out,k.ix⟩,0),rfl,h4,by dsimp only; omega,h5⟩
  all_goals
    first
      | refine Qg (fun s:{s:Nat × List Dt // s.1<=l.length/\s.2.length<=65 * i + 1 + s.1}=>⟨62,0,[(46,.int .i64 s.1.1),(45,.int .i64 l.length),(44,.pv (.sl (fz Qdm l))),(5,.int .i64 i),(4,.ptr 2 0),(2,.ptr 1 0),(1,.ptr 0 0)],[⟨41,true,k.d⟩,⟨210,true,Zc⟩,⟨210,true,[.int .i64 k.pg,.int .i64 k.nx,.pv (.sl (fz Qae k.tx)),.own 3 3 0 s.1.2.length,.pv (.sl (fz QbN k.ix))]⟩,⟨190,true,cells Qdm s.1.2⟩]⟩) (fun s=>l.length - s.1.1) ⟨(0,out ++ [⟨d.pg,d.rc,d.last⟩]),by dsimp only; rw [List.length_append]; exact ⟨Nat.zero_le _,by simp; omega⟩⟩ (by dsimp only; rw [List.length_append]; exact (gc [0,1,2,6])) ?_
      | refine Qg (fun s:{s:Nat × List Dt // s.1<=l.length/\s.2.length<=65 * i + 1 + s.1}=>⟨62,0,[(46,.int .i64 s.1.1),(45,.int .i64 l.length),(44,.pv (.sl (fz Qdm l))),(5,.int .i64 i),(4,.ptr 2 0),(2,.ptr 1 0),(1,.ptr 0 0)],[⟨41,true,k.d⟩,⟨210,true,Zc⟩,⟨210,true,[.int .i64 k.pg,.int .i64 k.nx,.pv (.sl (fz Qae k.tx)),.own 3 3 0 s.1.2.length,.pv (.sl (fz QbN k.ix))]⟩,⟨190,true,cells Qdm s.1.2⟩]⟩) (fun s=>l.length - s.1.1) ⟨(0,out),by dsimp only; exact ⟨Nat.zero_le _,by omega⟩⟩ (gc [0,1,2,3]) ?_
    rintro ⟨⟨j,o2⟩,hj,ho2⟩
    dsimp only at hj ho2 |-
    unfold Zc
    have hy:=fun h:j < l.length=>Qfi l j h
    have hb2:(o2.length + 1) * 24<=140737488355328:=by omega
    have F:=(And.intro @hy @hb2)
    refine rn F ?_
    repeat' (first
      | with_reducible exact ⟨⟩
      | (refine sB F ?_ ?_<;>intro hZ))
  all_goals first
    | exact ⟨⟨(j + 1,o2),by dsimp only; omega,by dsimp only; omega⟩,by dsimp only; omega,(gc [0,1,2,3])⟩
    | exact ⟨⟨(j + 1,o2 ++ [⟨(l.getD j Dt0).pg,(l.getD j Dt0).rc,(l.getD j Dt0).last⟩]),by dsimp only; omega,by simp; omega⟩,by dsimp only; omega,by dsimp only; rw [List.length_append]; exact (gc [0,1,2,6])⟩
    | exact ⟨⟨(i + 1,o2),by dsimp only; omega,by dsimp only; omega⟩,by dsimp only; omega,(gc [0,1,2,3])⟩
    | skip
  all_goals skip
end
theorem Qh1 (c:Cp) (h:c.sm):VCalls prog 165 [.agg c.d] [] (QC boD fun _=>True):=by
  refine dd Tryz.func165 ?_
  obtain ⟨h1,h2,h3⟩:=h
  have h10:=h1.1
  have c1:=Qbs c.tx (h1.smL (by omega))
  have c2:=fun n=>Qj5 c.dl (by omega) n
  have c3:=QaV c.ix (by omega)
  generalize QdF c.tx = b1 at *
  generalize ixB c.ix = b2 at *
  (unfold Tryz.f165; refine rn trivial ?_)
  refine rn F ?_
  repeat' (first
    | with_reducible exact ⟨⟩
    | (refine sG F ?_ ?_<;>intro hZ)
    | (refine sB F ?_ ?_<;>intro hZ)
    | refine vp F (c1) ?_
    | (refine Qj (c2 _) rfl ?_; rintro b3 -; refine rn F ?_)
    | refine vp F (c3) ?_)
  all_goals first
    | exact ⟨rfl,rfl,false,rfl,trivial⟩
    | skip
  all_goals
    refine Qg (fun s:To c.tx.length=>⟨67,0,[(3,.int .i64 s.i),(1,.ptr 0 0)],[⟨210,true,c.d⟩]⟩) (fun s=>c.tx.length - s.i) ⟨0,Nat.zero_le _⟩ (gc [0]) ?_
    rintro ⟨i,hi⟩
    dsimp only
    have hg:=fun h:i < c.tx.length=>QdN c.tx i h
    have F:=@hg
    refine rn F ?_
    repeat' (first
      | with_reducible exact ⟨⟩
      | (refine sB F ?_ ?_<;>intro hZ)
      | (refine Qb (id:=6) [0,1,2,3,4,5,6,7,8] [] (by kernel_rfl) (by kernel_rfl) ?_; refine rn F ?_))
  all_goals first
    | exact ⟨rfl,rfl,false,rfl,trivial⟩
    | exact ⟨rfl,rfl,true,rfl,trivial⟩
    | exact ⟨⟨i + 1,by omega⟩,by dsimp only; omega,(gc [0])⟩
    | skip
theorem Qu0 (c:Cp) (h:c.sm):VCalls prog 128 [.agg c.d] [] (QC siD fun a=>a.1.length<=300000000):=by
  refine dd Tryz.func128 ?_
  have c1:=Qh1 c h
  obtain ⟨h1,h2,h3⟩:=h
  have c2:=Qyf c.tx h1
  have c3:=QuP c.ix h3
  have c4:=QuC [] (by simp)
  (unfold Tryz.f128; refine rn trivial ?_)
  refine rn F ?_
  repeat' (first
    | with_reducible exact ⟨⟩
    | (refine sB F ?_ ?_<;>intro hZ)
    | (refine Qj (c1) rfl ?_; rintro b -; refine rn F ?_)
    | (refine Qj (c2) rfl ?_; rintro ⟨t,e⟩ ht; refine rn F ?_)
    | (refine Qj (c4 _) rfl ?_; rintro u1 hu1; refine rn F ?_)
    | (refine Qj (Qyn u1 (by simp at hu1; omega) c.nx) rfl ?_; rintro u2 hu2; refine rn F ?_)
    | (refine Qj (Qyn u2 (by simp at hu1; omega) t.length) rfl ?_; rintro u3 hu3; refine rn F ?_))
  all_goals first
    | exact ⟨rfl,rfl,([],24),rfl,by simp⟩
    | skip
  dsimp only at ht
  simp only [List.length_nil] at hu1
  have hadd:=QcD (a:=u3) (b:=t) (by omega)
  have hw:(u3 ++ t).length = u3.length + t.length:=List.length_append
  have F:=@hadd
  refine rn F ?_
  repeat' (first
    | with_reducible exact ⟨⟩
    | (refine Qj (QuD (u3 ++ t) (by rw [hw]; omega) c.dl.length) rfl ?_; rintro u4 hu4; refine rn F ?_))
  rw [hw] at hu4
  refine Qg (fun r:{r:Nat × List UInt8 // r.1<=c.dl.length/\r.2.length = u4.length + 17 * r.1}=>⟨77,0,[(7,.int .i64 r.1.1),(6,.pv (.str r.1.2)),(1,.ptr 0 0)],[⟨210,true,c.d⟩]⟩) (fun r=>c.dl.length - r.1.1) ⟨(0,u4),by simp⟩ (gc [0]) ?_
  rintro ⟨⟨i,v⟩,hi,hv⟩
  dsimp only at hi hv |-
  have hy:=fun h:i < c.dl.length=>Qfi c.dl i h
  generalize c.dl.getD i Dt0 = x at *
  have F:=@hy
  refine rn F ?_
  repeat' (first
    | with_reducible exact ⟨⟩
    | (refine sB F ?_ ?_<;>intro hZ)
    | (refine Qj (QuD v (by omega) x.pg) rfl ?_; rintro v1 hv1; refine rn F ?_)
    | (refine Qj (Qj6 v1 (by omega) x.rc) rfl ?_; rintro v2 hv2; refine rn F ?_)
    | (refine Qj (Qj6 v2 (by omega) x.last) rfl ?_; rintro v3 hv3; refine rn F ?_)
    | (refine Qj (c3) rfl ?_; rintro ⟨w,e2⟩ hw2; refine rn F ?_))
  all_goals first
    | exact ⟨⟨(i + 1,v3),by dsimp only; omega,by dsimp only; omega⟩,by dsimp only; omega,(gc [0])⟩
    | skip
  dsimp only at hw2
  have hadd2:=QcD (a:=v) (b:=w) (by omega)
  have F:=@hadd2
  refine rn F ?_
  exact ⟨rfl,rfl,(v ++ w,0),rfl,by dsimp only; rw [List.length_append]; omega⟩
theorem Qer {x:Lg} {n:Int} (h:(Q9 x n).2 = 0):Ev x (Q9 x n).1:=by
  unfold Q9 at h |-
  split at h
  · simp at h
  rename_i q1
  split at h
  · simp at h
  rename_i q2
  rw [if_neg q1,if_neg q2]
  refine ⟨rfl,List.prefix_rfl,fun hv=>?_⟩
  have hd:=QB hv
  unfold lgB at hv |-
  simp only [Bool.and_eq_true,decide_eq_true_eq] at hv |-
  refine ⟨?_,hv.2⟩
  simp only [Lg.hd,Lg.end_] at hd q2 |-
  split<;>omega
theorem Qia (x:Lg) (n:Int) (h:x.es.length<=4096):(Q9 x n).1.es.length<=4096:=by
  unfold Q9
  repeat' split
  all_goals first | exact Nat.zero_le _ | exact h
theorem Qpj {k k1:Kn} {e:E} {n1 e1:Int} (hq:Qxe k e (k1,n1,e1)) (h:e1 = 0):(Q9 k1.lg n1).2 = 0:=by
  obtain ⟨e',⟨_,_,_,hl,_⟩,hk,hn,hv⟩:=hq.2 h
  dsimp only at hk hn hv
  subst hk
  unfold Q9
  rw [if_neg (by rw [hv]; decide),if_neg]
  simp only [Kn.add,Lg.end_,List.length_append,List.length_cons,List.length_nil] at *
  omega
def QA2 (k:Kn) (a:Kn × Int × Int):Prop:=a.1.sm/\(a.2.2 = 0->Ev k.lg a.1.lg)
theorem Qyh (k:Kn) (h:k.sm):VCalls prog 108 [.agg k.d] [] (QC kie (QA2 k)):=by
  refine dk Tryz.func108 ?_
  have c1:=QyD k h
  have c2:=fun c hc=>Qu0 c hc
  have c3:=fun t=>QdH k h ⟨0,6,0,0,0,0,Ch0,t⟩
  have e0:∀ n e,e ≠ 0->QA2 k (Kn0,n,e):=fun n e h=>⟨QbC,fun h2=>absurd h2 h⟩
  (unfold Tryz.f108; refine rn trivial ?_)
  refine rn F ?_
  repeat' (first
    | with_reducible exact ⟨⟩
    | (refine sB F ?_ ?_<;>intro hZ)
    | (refine Qj (c1) rfl ?_; rintro ⟨c,e⟩ hc; refine rn F ?_)
    | (refine Qj (c2 c hc) rfl ?_; rintro ⟨t,e2⟩ ht; refine rn F ?_)
    | (refine Qj (c3 _) rfl ?_; rintro ⟨k1,n1,e1⟩ hq; refine rn F ?_)
    | refine vp F (QfL k1.lg (Nat.le_trans hq.1.1 (by decide)) n1) ?_)
  all_goals first
    | exact ⟨rfl,rfl,(Kn0,0,21),rfl,e0 _ _ (by decide)⟩
    | exact ⟨rfl,rfl,(Kn0,0,e),rfl,e0 _ _ (by assumption)⟩
    | exact ⟨rfl,rfl,(Kn0,0,e1),rfl,e0 _ _ (by assumption)⟩
    | skip
  have he1:e1 = 0:=by omega
  obtain ⟨q1,q2,q3,q4,q5,q6,q7⟩:=QdT hq he1
  obtain ⟨r1,r2,r3,r4,r5,r6⟩:=hq.1
  have hf:=Qer (Qpj hq he1)
  exact ⟨rfl,rfl,(⟨k1.pg,k1.nx,(Q9 k1.lg n1).1,k1.pl,k1.lk,k1.tx,k1.ix,k1.la⟩,n1,0),rfl,⟨Qia _ _ r1,r2,r3,r4,r5,r6⟩,fun _=>q1.trans hf⟩
theorem QqO (s:Sv) (hs:s.sm):VCalls prog 93 [.agg s.d] [] (QC QDN fun a=>a.1.sm/\(a.2.2 = 0->Ev s.k.lg a.1.k.lg)):=by
  refine dk Tryz.func93 ?_
  have c1:=Qyh s.k hs.1
  (unfold Tryz.f93; refine rn trivial ?_)
  refine rn F ?_
  repeat' (first
    | with_reducible exact ⟨⟩
    | (refine sB F ?_ ?_<;>intro hZ)
    | (refine Qj (c1) rfl ?_; rintro ⟨k1,n1,e1⟩ hq; refine rn F ?_))
  all_goals first
    | exact ⟨rfl,rfl,(Sv0,0,e1),rfl,QcY,fun h=>absurd h (by assumption)⟩
    | exact ⟨rfl,rfl,(⟨k1,s.v⟩,n1,0),rfl,⟨hq.1,hs.2⟩,fun _=>hq.2 (by dsimp only; omega)⟩
    | skip
@[go_sem] def niZ (a:Int × Int):DV:=.tup [.int .i64 a.1,.int .i64 a.2]
theorem QdI (s:List UInt8) (hs:s.length<=100000000) (a:Int) (k:Nat) (h1:1<=k) (h8:k<=8) (h0:0<=a):VCalls prog 217 [.pv (.str s),.int .i64 a,.int .i64 k] [] (QC niZ fun r=>(k<=4->0<=r.1/\r.1 < 4294967296)/\(k<=2->r.1 < 65536)/\(k<=1->r.1 < 256)/\(r.2 = 0->a + k<=s.length)):=by
  by_cases h:a + k<=s.length
  · obtain ⟨n,rfl⟩:∃ n:Nat,a = n:=⟨a.toNat,by omega⟩
    refine (QhY s (by omega) n k ⟨h1,h8⟩ (by omega)).toS (IntKind.i64.wrap (Qlf s n k),0) rfl ⟨fun hk=>?_,fun hk=>?_,fun hk=>?_,fun _=>h⟩
    all_goals
      have e:=Qez s n k (by omega)
      have h2:=QkB s n k
      dsimp only
      rw [e,IntKind.wrap_i64]
    · have:(2:Nat) ^ (8 * k)<=2 ^ 32:=Nat.pow_le_pow_right (by omega) (by omega)
      omega
    · have:(2:Nat) ^ (8 * k)<=2 ^ 16:=Nat.pow_le_pow_right (by omega) (by omega)
      omega
    · have:(2:Nat) ^ (8 * k)<=2 ^ 8:=Nat.pow_le_pow_right (by omega) (by omega)
      omega
  · refine (Qc9 s a k (by omega) h0 h).toS (0,5) rfl ⟨fun _=>by decide,fun _=>by decide,fun _=>by decide,fun h=>by simp at h⟩
structure RwS (n:Nat) where
  i:Nat
  l:List Rw
  hl:l.length = i
  hi:i<=n
@[go_sem] def ixD (a:List Rw × Int):DV:=.tup [.agg [.pv (.sl (fz QbN a.1))],.int .i64 a.2]
theorem QuQ (s:List UInt8) (hs:s.length<=100000000):VCalls prog 257 [.pv (.str s)] [] (QC ixD fun a=>a.1.length<=64):=by
  refine dk Tryz.func257 ?_
  have c1:=QdI s hs 0 2 (by omega) (by omega) (by omega)
  have c8:=fun a h=>QdI s hs a 8 (by omega) (by omega) h
  (unfold Tryz.f257; refine rn trivial ?_)
  refine rn F ?_
  repeat' (first
    | with_reducible exact ⟨⟩
    | (refine sG F ?_ ?_<;>intro hZ)
    | (refine sB F ?_ ?_<;>intro hZ)
    | (refine Qj (c1) rfl ?_; rintro ⟨n,e⟩ hn; refine rn F ?_))
  all_goals first
    | exact ⟨rfl,rfl,([],_),rfl,Nat.zero_le _⟩
    | skip
  dsimp only at hn
  obtain ⟨n,rfl⟩:∃ m:Nat,n = m:=⟨n.toNat,by omega⟩
  have hn2:n < 65536:=by omega
  clear hn
  refine VLoop.nilOwnC 1 0 278 3 rfl rfl ?_
  refine rn trivial ?_
  refine Qg (fun r:RwS n=>⟨77,0,[(7,.int .i64 r.i),(6,.ptr 1 0),(4,.int .i64 n),(2,.ptr 0 0),(0,.pv (.str s))],[⟨38,true,[.pv (.slc [])]⟩,⟨38,true,[.own 2 3 0 r.i]⟩,⟨278,true,cells QbN r.l⟩]⟩) (fun r=>n - r.i) ⟨0,[],rfl,Nat.zero_le _⟩ (gc [0,1,2]) ?_
  rintro ⟨i,l,hl,hi⟩
  dsimp only at hi |-
  subst hl
  have hb:(l.length + 1) * 24<=140737488355328:=by omega
  have c9:=QaV l (by omega)
  have hix:=fun h:ixB l = true=>Qr5 h
  generalize ixB l = ok at *
  have F:=@hb
  refine rn F ?_
  repeat' (first
    | with_reducible exact ⟨⟩
    | (refine sB F ?_ ?_<;>intro hZ)
    | (refine Qj (c8 (2 + 24 * (l.length:Int)) (by omega)) rfl ?_; rintro ⟨a1,e1⟩ h1; refine rn F ?_)
    | (refine Qj (c8 (10 + 24 * (l.length:Int)) (by omega)) rfl ?_; rintro ⟨a2,e2⟩ h2; refine rn F ?_)
    | (refine Qj (c8 (18 + 24 * (l.length:Int)) (by omega)) rfl ?_; rintro ⟨a3,e3⟩ h3; refine rn F ?_))
  · have hl2:(l ++ [(⟨a1,a2,a3⟩:Rw)]).length = l.length + 1:=by simp
    have hil:l.length < n:=by omega
    clear h1 h2 h3
    refine ⟨⟨l.length + 1,l ++ [⟨a1,a2,a3⟩],hl2,hil⟩,by dsimp only; omega,?_⟩
    exact (gc [0,1,5])
  have hix:=fun h:ixB l = true=>Qr5 h
  have c9:=QaV l (by omega)
  generalize ixB l = ok at *
  refine vl hb c9 ?_
  cases ok
  · skip
    have F:=@hb
    refine rn F ?_
    exact ⟨rfl,rfl,([],_),rfl,Nat.zero_le _⟩
  · skip
    have F:=@hb
    refine rn F ?_
    exact ⟨rfl,rfl,(l,0),rfl,(hix rfl).2⟩
structure DtS (n m:Nat) where
  i:Nat
  a:Int
  l:List Dt
  hl:l.length = i
  hi:i<=m
  ha:a = 11 + n + 17 * i
theorem Qu1 (s:List UInt8) (hs:s.length<=3000000):VCalls prog 254 [.pv (.str s)] [] (QC QD0 fun a=>smN 64 a.1.tx/\a.1.dl.length<=256/\a.1.ix.length<=64):=by
  refine dk Tryz.func254 ?_
  have c1:=QdI s (by omega) 0 2 (by omega) (by omega) (by omega)
  have c2:=QdI s (by omega) 2 4 (by omega) (by omega) (by omega)
  have c3:=QdI s (by omega) 6 4 (by omega) (by omega) (by omega)
  have c4:=fun a h=>QdI s (by omega) a 1 (by omega) (by omega) h
  have c8:=fun a h=>QdI s (by omega) a 8 (by omega) (by omega) h
  (unfold Tryz.f254; refine rn trivial ?_)
  refine Qj c1 rfl ?_
  rintro ⟨pg,e1⟩ h1
  refine rn trivial ?_
  refine Qj c2 rfl ?_
  rintro ⟨nx,e2⟩ h2
  refine rn trivial ?_
  refine Qj c3 rfl ?_
  rintro ⟨n,e3⟩ h3
  dsimp only at h3
  obtain ⟨n,rfl⟩:∃ m:Nat,n = m:=⟨n.toNat,by omega⟩
  have hn:n < 4294967296:=by omega
  clear h3
  refine rn F ?_
  repeat' (first
    | with_reducible exact ⟨⟩
    | (refine sG F ?_ ?_<;>intro hZ)
    | (refine sB F ?_ ?_<;>intro hZ))
  all_goals first | exact ⟨rfl,rfl,(Cp0,5),rfl,QQ _,Nat.zero_le _,Nat.zero_le _⟩ | skip
  have hns:n + 10<=s.length:=by omega
  refine Qj (c4 (10 + (n:Int)) (by omega)) rfl ?_
  rintro ⟨m,e4⟩ h4
  dsimp only at h4
  obtain ⟨m,rfl⟩:∃ k:Nat,m = k:=⟨m.toNat,by omega⟩
  have hm:m < 256:=by omega
  clear h4
  refine rn F ?_
  repeat' (first
    | with_reducible exact ⟨⟩
    | (refine sG F ?_ ?_<;>intro hZ)
    | (refine sB F ?_ ?_<;>intro hZ))
  all_goals first | exact ⟨rfl,rfl,(Cp0,5),rfl,QQ _,Nat.zero_le _,Nat.zero_le _⟩ | skip
  have hns2:11 + n + 17 * m<=s.length:=by omega
  refine VLoop.nilOwnC 1 3 190 3 rfl rfl ?_
  refine rn trivial ?_
  generalize htx:(s.take (10 + (n:Int)).toNat).drop 10 = txs
  have htl:txs.length<=3000000:=by rw [<- htx,List.length_drop,List.length_take]; omega
  refine Qg (fun r:DtS n m=>⟨130,0,[(11,.int .i64 r.i),(10,.int .i64 m),(9,.int .i64 r.a),(8,.pv (.str txs)),(4,.ptr 1 0),(2,.ptr 0 0),(0,.pv (.str s))],[⟨210,true,[.int .i64 0,.int .i64 0,.pv (.slc []),.pv (.slc []),.pv (.slc [])]⟩,⟨210,true,[.int .i64 pg,.int .i64 nx,.pv (.slc []),.own 2 3 0 r.i,.pv (.slc [])]⟩,⟨190,true,cells Qdm r.l⟩]⟩) (fun r=>m - r.i) ⟨0,10 + (n:Int) + 1,[],rfl,Nat.zero_le _,by omega⟩ (gc [0,1,2]) ?_
  rintro ⟨i,a,l,hl,hi,ha⟩
  dsimp only
  subst hl
  have hb:(l.length + 1) * 24<=140737488355328:=by omega
  by_cases hil:l.length < m
  · skip
    have F:=@hb
    refine rn F ?_
    repeat' (first
      | with_reducible exact ⟨⟩
      | (refine Qj (c4 a (by omega)) rfl ?_; rintro ⟨a1,e1⟩ h1; refine rn F ?_)
      | (refine Qj (c8 (a + 1) (by omega)) rfl ?_; rintro ⟨a2,e2⟩ h2; refine rn F ?_)
      | (refine Qj (c8 (a + 9) (by omega)) rfl ?_; rintro ⟨a3,e3⟩ h3; refine rn F ?_))
    have hl2:(l ++ [(⟨a1,a2,a3⟩:Dt)]).length = l.length + 1:=by simp
    clear h1 h2 h3
    refine ⟨⟨l.length + 1,a + 17,l ++ [⟨a1,a2,a3⟩],hl2,hil,by rw [ha]; omega⟩,by dsimp only; omega,?_⟩
    exact (gc [0,1,5])
  obtain rfl:m = l.length:=by omega
  have c9:=Qog txs htl
  have hq:smN 64 (QB9 txs).1:=by
    unfold QB9
    split
    · exact QQ _
    split
    · exact QQ _
    split
    · exact QQ _
    · rename_i h; exact QfI (by simpa using h)
  generalize QB9 txs = D at *
  obtain ⟨tx,et⟩:=D
  dsimp only at hq
  have ha2:0<=a/\a<=s.length:=by omega
  obtain ⟨a,rfl⟩:∃ k:Nat,a = k:=⟨a.toNat,by omega⟩
  have hsl:(s.drop a).length<=100000000:=by rw [List.length_drop]; omega
  have hal:a<=s.length:=by omega
  have F:=(And.intro @hb @hal)
  refine rn F ?_
  repeat' (first
    | with_reducible exact ⟨⟩
    | (refine sB F ?_ ?_<;>intro hZ)
    | refine vp F (c9) ?_
    | (refine Qj (QuQ _ hsl) rfl ?_; rintro ⟨ix,ei⟩ hi2; refine rn F ?_))
  all_goals first | exact ⟨rfl,rfl,(Cp0,_),rfl,QQ _,Nat.zero_le _,Nat.zero_le _⟩ | skip
  dsimp only at hi2
  have c10:=Qh1 ⟨pg,nx,tx,l,ix⟩ ⟨hq.mono (by decide),by dsimp only; omega,hi2⟩
  have F:=@hb
  refine rn F ?_
  repeat' (first
    | with_reducible exact ⟨⟩
    | (refine sB F ?_ ?_<;>intro hZ)
    | (refine QtZ (c10) ?_ (fun _=>rfl) ?_; (focus (refine rd F)); rintro b -; refine rn F ?_))
  all_goals first
    | exact ⟨rfl,rfl,(Cp0,_),rfl,QQ _,Nat.zero_le _,Nat.zero_le _⟩
    | exact ⟨rfl,rfl,(⟨pg,nx,tx,l,ix⟩,0),rfl,hq,by dsimp only; omega,hi2⟩
    | skip
@[go_sem] def ltD (a:Cp × Int × Bool):DV:=.tup [.agg a.1.d,.int .i64 a.2.1,.bool a.2.2]
theorem QBO {x:Lg} (h:lgB x = true):∀ i,i < x.es.length->(x.es.getD i E0).blob.length<=8192:=by
  unfold lgB at h
  simp only [Bool.and_eq_true,List.all_eq_true,List.mem_range] at h
  intro i hi
  have:=h.2 i hi
  simp only [lgC,Bool.and_eq_true] at this
  exact (Qek this.2).2.2
def cpQ (c:Cp):Prop:=smN 64 c.tx/\c.dl.length<=256/\c.ix.length<=64
theorem QCA:cpQ Cp0:=⟨QQ _,Nat.zero_le _,Nat.zero_le _⟩
theorem Qq1 (x:Lg) (hx:x.es.length<=1000000):VCalls prog 250 [.agg x.c] [] (QC ltD fun a=>cpQ a.1):=by
  refine dk Tryz.func250 ?_
  have c1:=QV x (by omega)
  (unfold Tryz.f250; refine rn trivial ?_)
  cases hv:lgB x
  · rw [hv] at c1
    refine rn F ?_
    repeat' (first
      | with_reducible exact ⟨⟩
      | refine vp F (c1) ?_)
    exact ⟨rfl,rfl,(Cp0,0,false),rfl,QCA⟩
  rw [hv] at c1
  have hs:=QBO hv
  refine rn F ?_
  repeat' (first
    | with_reducible exact ⟨⟩
    | refine vp F (c1) ?_)
  refine Qg (fun r:{r:To x.es.length × Int // r.2 = (r.1.i:Int) - 1}=>⟨47,0,[(5,.int .i64 r.1.2),(2,.ptr 1 0),(1,.ptr 0 0)],[⟨25,true,x.c⟩,⟨210,true,Zc⟩]⟩) (fun r=>r.1.1.i) ⟨(⟨x.es.length,Nat.le_refl _⟩,(x.es.length:Int) - 1),rfl⟩ (gc [0,1]) ?_
  rintro ⟨⟨⟨k,hk⟩,j⟩,hj⟩
  dsimp only at hj |-
  unfold Zc
  by_cases h0:k = 0
  · subst h0
    have hj2:¬ j >= 0:=by omega
    have F:=@hj2
    refine rn F ?_
    exact ⟨rfl,rfl,(Cp0,0,false),rfl,QCA⟩
  obtain ⟨i,rfl⟩:∃ i,k = i + 1:=⟨k - 1,by omega⟩
  obtain rfl:j = (i:Int):=by omega
  have hg:=QeV x.es i (by omega)
  have hb:=hs i (by omega)
  have c2:=Qu1 (x.es.getD i E0).blob (by omega)
  have F:=@hg
  refine rn F ?_
  repeat' (first
    | with_reducible exact ⟨⟩
    | (refine sB F ?_ ?_<;>intro hZ)
    | (refine Qj (c2) rfl ?_; rintro ⟨c,e⟩ hc; refine rn F ?_)
    | (refine Qb (id:=9) [0,1,2,3,4,5,6] [⟨[],[],7,[1,2,3,4,5,6],[]⟩,⟨[],[],8,[],[]⟩,⟨[],[],9,[],[]⟩] (by kernel_rfl) (by kernel_rfl) ?_; refine rn F ?_))
  all_goals first
    | exact ⟨⟨(⟨i,by omega⟩,(i:Int) - 1),rfl⟩,by dsimp only; omega,(gc [0,1])⟩
    | exact ⟨rfl,rfl,(c,_,true),rfl,hc⟩
    | skip
structure DyS (n:Nat) where
  i:Nat
  d:Bool
  out:List Dt
  hi:i<=n
  ho:out.length<=i + d.toNat
@[go_sem] def dtL (l:List Dt):DV:=.pv (.sl (fz Qdm l))
theorem QuY (l:List Dt) (hl:l.length<=1000000) (e:E):VCalls prog 251 [.pv (.sl (fz Qdm l)),.agg e.d] [] (QC dtL fun m=>m.length<=l.length + 1):=by
  refine dk Tryz.func251 ?_
  have c1:=QaX e
  generalize (e.kind == 1 || e.kind == 2) = ch at *
  (unfold Tryz.f251; refine rn trivial ?_)
  refine rn F ?_
  repeat' (first
    | with_reducible exact ⟨⟩
    | (refine sG F ?_ ?_<;>intro hZ)
    | (refine sB F ?_ ?_<;>intro hZ)
    | refine vp F (c1) ?_)
  all_goals first
    | exact ⟨rfl,rfl,l,rfl,Nat.le_succ _⟩
    | skip
  all_goals
    refine VLoop.nilOwn 5 190 3 rfl ?_
    refine Qg (fun s:DyS l.length=>⟨100,0,[(7,.int .i64 s.i),(6,.bool s.d),(5,.own 1 3 0 s.out.length),(3,.ptr 0 0),(0,.pv (.sl (fz Qdm l)))],[⟨60,true,e.d⟩,⟨190,true,cells Qdm s.out⟩]⟩) (fun s=>l.length - s.i) ⟨0,false,[],Nat.zero_le _,Nat.zero_le _⟩ (gc [0,1]) ?_
    rintro ⟨i,d,out,hi,ho⟩
    dsimp only
    have hg:=fun h:i < l.length=>Qfi l i h
    generalize l.getD i Dt0 = x at *
    have ho3:out.length<=i + 1:=Nat.le_trans ho (Nat.add_le_add_left (Bool.toNat_le d) i)
    have hb1:(out.length + 1) * 24<=140737488355328:=Nat.le_trans (Nat.mul_le_mul_right 24 (show out.length + 1<=1000002 by omega)) (by decide)
    have hb2:(out.length + 1 + 1) * 24<=140737488355328:=Nat.le_trans (Nat.mul_le_mul_right 24 (show out.length + 1 + 1<=1000003 by omega)) (by decide)
    cases d
  all_goals first | simp only [Bool.toNat_false,Nat.add_zero] at ho | simp only [Bool.toNat_true] at ho
  all_goals
    have F:=(And.intro @hg (And.intro @hb1 @hb2))
    refine rn F ?_
    repeat' (first
      | with_reducible exact ⟨⟩
      | (refine sG F ?_ ?_<;>intro hZ)
      | (refine sB F ?_ ?_<;>intro hZ)
      | refine vp F (c1) ?_)
  all_goals first
    | exact ⟨rfl,rfl,out,rfl,by omega⟩
    | exact ⟨rfl,rfl,_,rfl,by simp; omega⟩
    | exact ⟨⟨i + 1,false,out,by omega,by simp; omega⟩,by dsimp only; omega,(gc [0,1])⟩
    | exact ⟨⟨i + 1,true,out,by omega,by simp; omega⟩,by dsimp only; omega,(gc [0,1])⟩
    | (refine ⟨⟨i + 1,false,out ++ [⟨x.pg,x.rc,x.last⟩],by omega,by simp; omega⟩,by dsimp only; omega,?_⟩; dsimp only; rw [List.length_append]; exact (gc [0,4]))
    | (refine ⟨⟨i + 1,true,out ++ [⟨x.pg,x.rc,x.last⟩],by omega,by simp; omega⟩,by dsimp only; omega,?_⟩; dsimp only; rw [List.length_append]; exact (gc [0,4]))
    | (refine ⟨⟨i + 1,true,out ++ [⟨e.c.pg,e.lsn,e.lsn⟩] ++ [⟨x.pg,x.rc,x.last⟩],by omega,by simp; omega⟩,by dsimp only; omega,?_⟩; dsimp only; rw [List.length_append,List.length_append]; exact (gc [0,6]))
    | (refine ⟨⟨i + 1,false,out ++ [⟨x.pg,x.rc,e.lsn⟩],by omega,by simp; omega⟩,by dsimp only; omega,?_⟩; dsimp only; rw [List.length_append]; exact (gc [0,4]))
    | (refine ⟨⟨i + 1,true,out ++ [⟨x.pg,x.rc,e.lsn⟩],by omega,by simp; omega⟩,by dsimp only; omega,?_⟩; dsimp only; rw [List.length_append]; exact (gc [0,4]))
    | (refine ⟨⟨i + 1,true,out ++ [⟨e.c.pg,e.lsn,e.lsn⟩] ++ [⟨x.pg,x.rc,e.lsn⟩],by omega,by simp; omega⟩,by dsimp only; omega,?_⟩; dsimp only; rw [List.length_append,List.length_append]; exact (gc [0,6]))
    | (refine ⟨⟨i + 1,false,out ++ [⟨x.pg,IntKind.i64.wrap (e.ref + 1),x.last⟩],by omega,by simp; omega⟩,by dsimp only; omega,?_⟩; dsimp only; rw [List.length_append]; exact (gc [0,4]))
    | (refine ⟨⟨i + 1,true,out ++ [⟨x.pg,IntKind.i64.wrap (e.ref + 1),x.last⟩],by omega,by simp; omega⟩,by dsimp only; omega,?_⟩; dsimp only; rw [List.length_append]; exact (gc [0,4]))
    | (refine ⟨⟨i + 1,true,out ++ [⟨e.c.pg,e.lsn,e.lsn⟩] ++ [⟨x.pg,IntKind.i64.wrap (e.ref + 1),x.last⟩],by omega,by simp; omega⟩,by dsimp only; omega,?_⟩; dsimp only; rw [List.length_append,List.length_append]; exact (gc [0,6]))
    | skip
theorem Qq0 (a b:Gr):VCalls prog 255 [.agg a.d,.agg b.d] [] (QC boD fun _=>True):=by
  refine dd Tryz.func255 ?_
  (unfold Tryz.f255; refine rn trivial ?_)
  refine rn F ?_
  repeat' (first
    | with_reducible exact ⟨⟩
    | (refine sB F ?_ ?_<;>intro hZ))
  all_goals exact ⟨rfl,rfl,_,rfl,trivial⟩
@[go_sem] def grL (l:List Gr):DV:=.pv (.sl (fz Qao l))
theorem QqB (l:List Gr) (hl:l.length<=10000000) (g:Gr):VCalls prog 252 [.pv (.sl (fz Qao l)),.agg g.d] [] (QC grL fun m=>m.length<=l.length + 1):=by
  refine dk Tryz.func252 ?_
  have c1:=fun a=>Qq0 a g
  (unfold Tryz.f252; refine rn trivial ?_)
  refine Qg (fun s:To l.length=>⟨44,0,[(5,.int .i64 s.i),(3,.ptr 0 0),(0,.pv (.sl (fz Qao l)))],[⟨222,true,g.d⟩]⟩) (fun s=>l.length - s.i) ⟨0,Nat.zero_le _⟩ (gc [0]) ?_
  rintro ⟨i,hi⟩
  dsimp only
  have hg:=fun h:i < l.length=>Qaw l i h
  by_cases hil:i < l.length
  · have hg:=Qaw l i hil
    have c2:=Qq0 (l.getD i Gr0) g
    generalize l.getD i Gr0 = x at *
    have he:=Qtp x.tx x.pg x.sl x.md g.tx g.pg g.sl g.md
    have hb:(i + 1 + (l.length - i)) * 32<=140737488355328:=by omega
    have F:=(And.intro @hg (And.intro @he @hb))
    refine rn F ?_
    repeat' (first
      | with_reducible exact ⟨⟩
      | (refine sB F ?_ ?_<;>intro hZ)
      | (refine Qj (c2) rfl ?_; rintro b -; refine rn F ?_)
      | (refine Qb (id:=2) [0,1,2,3,4,5,6,7,8,9] [⟨[],[],10,[0,1,2,3,5,6,7],[11]⟩] (by kernel_rfl) (by kernel_rfl) ?_; refine rn F ?_)
      | (refine Qb (id:=4) [0,1,2,3,4,5,6,7,8,9,10,11] [] (by kernel_rfl) (by kernel_rfl) ?_; refine rn F ?_)
      | (refine Qb (id:=6) [0,1,2,4,7,8,9] [⟨[5],[],3,[0,1,4,7,8,9],[]⟩,⟨[5],[5],6,[0,1,2,4,7,8,9],[]⟩,⟨[],[],10,[0,1,2,4,7,8],[]⟩,⟨[],[],11,[],[]⟩] (by kernel_rfl) (by kernel_rfl) ?_; refine rn F ?_))
    all_goals first
      | exact ⟨⟨i + 1,by omega⟩,by dsimp only; omega,(gc [0])⟩
      | exact ⟨rfl,rfl,l,rfl,Nat.le_succ _⟩
      | exact ⟨rfl,rfl,_,rfl,by simp; omega⟩
      | skip
  · skip
    have F:=trivial
    refine rn F ?_
    repeat' (first
      | with_reducible exact ⟨⟩
      | (refine Qb (id:=2) [0,1,2,3,4,5,6,7,8,9] [⟨[],[],10,[0,1,2,3,5,6,7],[11]⟩] (by kernel_rfl) (by kernel_rfl) ?_; refine rn F ?_)
      | (refine Qb (id:=4) [0,1,2,3,4,5,6,7,8,9,10,11] [] (by kernel_rfl) (by kernel_rfl) ?_; refine rn F ?_)
      | (refine Qb (id:=6) [0,1,2,4,7,8,9] [⟨[5],[],3,[0,1,4,7,8,9],[]⟩,⟨[5],[5],6,[0,1,2,4,7,8,9],[]⟩,⟨[],[],10,[0,1,2,4,7,8],[]⟩,⟨[],[],11,[],[]⟩] (by kernel_rfl) (by kernel_rfl) ?_; refine rn F ?_))
    exact ⟨rfl,rfl,_,rfl,by simp; omega⟩
@[go_sem] def lkR (a:List Gr × Int):DV:=.tup [.pv (.sl (fz Qao a.1)),.int .i64 a.2]
structure LkO (n:Nat) where
  i:Nat
  out:List Gr
  hi:i<=n
  ho:out.length<=100000 * i
structure LkI (n i:Nat) where
  k:Nat
  out:List Gr
  hk:k<=n
  ho:out.length<=100000 * i + k
theorem QuJ (x:Lg) (hx:x.es.length<=1000000) (l:List Tx) (hl:smN 65 l):VCalls prog 221 [.agg x.c,.pv (.sl (fz Qae l))] [] (QC lkR fun a=>a.1.length<=6500000):=by
  refine dk Tryz.func221 ?_
  have h65:=hl.1
  (unfold Tryz.f221; refine rn trivial ?_)
  refine VLoop.wkS ?_
  refine rn trivial ?_
  refine Qg (fun s:LkO l.length=>⟨68,0,[(7,.int .i64 s.i),(6,.pv (.sl (fz Qao s.out))),(2,.ptr 0 0),(1,.pv (.sl (fz Qae l)))],[⟨25,true,x.c⟩]⟩) (fun s=>l.length - s.i) ⟨0,[],Nat.zero_le _,Nat.zero_le _⟩ (gc [0]) ?_
  rintro ⟨i,out,hi,ho⟩
  dsimp only
  by_cases hil:i < l.length
  rotate_left
  · skip
    refine rn F ?_
    exact ⟨rfl,rfl,(out,0),rfl,by dsimp only; omega⟩
  have hg:=QdN l i hil
  have hss:(l.getD i Tx0).l.length<=100000:=by rw [Qk _ _ hil]; exact (hl.2 _ (List.getElem_mem hil)).1
  generalize l.getD i Tx0 = t at *
  refine rn F ?_
  refine Qg (fun s:LkI t.l.length i=>⟨68,0,[(8,.int .i64 s.k),(7,.int .i64 i),(6,.pv (.sl (fz Qao s.out))),(2,.ptr 0 0),(1,.pv (.sl (fz Qae l)))],[⟨25,true,x.c⟩]⟩) (fun s=>t.l.length - s.k) ⟨0,out,Nat.zero_le _,ho⟩ (gc [0]) ?_
  rintro ⟨k,out2,hk,ho2⟩
  dsimp only
  by_cases hkl:k < t.l.length
  rotate_left
  · skip
    have F:=@hg
    refine rn F ?_
    exact ⟨⟨i + 1,out2,hil,by rw [Nat.mul_succ]; omega⟩,by dsimp only; omega,(gc [0])⟩
  have hg2:=QX t.l k hkl
  have c1:=Qe8 x (by omega) (t.l.getD k 0)
  generalize QdU x (t.l.getD k 0) = r at *
  obtain ⟨e,f⟩:=r
  dsimp only at c1
  have c2:=QqB out2 (by omega) ⟨e.tx,e.c.pg,e.c.sl,2⟩
  have F:=(And.intro @hg @hg2)
  refine rn F ?_
  repeat' (first
    | with_reducible exact ⟨⟩
    | (refine sG F ?_ ?_<;>intro hZ)
    | (refine sB F ?_ ?_<;>intro hZ)
    | refine vp F (c1) ?_
    | (refine Qj (c2) rfl ?_; rintro m hm; refine rn F ?_)
    | (refine Qb (id:=8) [0,1,2,3,4,5,6,7,8] [⟨[13],[],9,[1,2,3,4,5,6,7],[10,11,12]⟩,⟨[13],[13],14,[12],[]⟩,⟨[],[],15,[],[]⟩] (by kernel_rfl) (by kernel_rfl) ?_; refine rn F ?_)
    | (refine Qb (id:=11) [0,1,2,3,4,5,6,7,8,9,10,11,12] [] (by kernel_rfl) (by kernel_rfl) ?_; refine rn F ?_))
  all_goals first
    | exact ⟨rfl,rfl,([],_),rfl,Nat.zero_le _⟩
    | exact ⟨⟨k + 1,m,hkl,by omega⟩,by dsimp only; omega,(gc [0])⟩
    | skip
structure An where
  pg:Int
  nx:Int
  cp:Int
  lo:List Tx
  lk:List Gr
  la:List Dt
  ix:List Rw
@[go_sem] def An.d (a:An):List DV:=[.int .i64 a.pg,.int .i64 a.nx,.int .i64 a.cp,.pv (.sl (fz Qae a.lo)),.pv (.sl (fz Qao a.lk)),.pv (.sl (fz Qdm a.la)),.pv (.sl (fz QbN a.ix))]
def An0:An:=⟨0,0,0,[],[],[],[]⟩
def An.sm (a:An) (n:Nat):Prop:=smN 65 a.lo/\a.lk.length<=6500000/\a.la.length<=n/\a.ix.length<=64
theorem Qtx (n:Nat):An0.sm n:=⟨QQ _,Nat.zero_le _,Nat.zero_le _,Nat.zero_le _⟩
@[go_sem] def anD (a:An × Int):DV:=.tup [.agg a.1.d,.int .i64 a.2]
theorem QqW (a:An) (n:Nat) (hn:n<=100000) (ha:a.sm n) (e:E):VCalls prog 220 [.agg a.d,.agg e.d] [] (QC anD fun r=>r.1.sm (n + 1)):=by
  refine dk Tryz.func220 ?_
  obtain ⟨h1,h2,h3,h4⟩:=ha
  have hl:=h1.1
  have c1:=QbG a.lo (by omega) e.tx
  have c2:=Qm7 a.lo (h1.smL (by omega)) e.tx
  have c3:=QlN a.lo (h1.smL (by omega)) e
  have hs2:=Qk4 (l:=a.lo) e.tx
  have hs3:=Qi1 (l:=a.lo) e
  have c4:=QlN (Qb5 a.lo e.tx).1 (hs2.smL (by omega)) e
  have hs4:=Qi1 (l:=(Qb5 a.lo e.tx).1) e
  have c5:=Qj9 a.ix (by omega) e
  have h5:=Qku a.ix e h4
  have c6:=QaX e
  have c7:=QuY a.la (by omega) e
  generalize QbJ (Qb5 a.lo e.tx).1 e = N2 at *
  generalize Qb5 a.lo e.tx = B at *
  generalize QbJ a.lo e = N1 at *
  generalize QgE a.ix e = R at *
  generalize (e.kind == 1 || e.kind == 2) = ch at *
  generalize idT a.lo e.tx = f at *
  obtain ⟨b,eb⟩:=B
  obtain ⟨n1,e1⟩:=N1
  obtain ⟨n2,e2⟩:=N2
  obtain ⟨r,er⟩:=R
  dsimp only at *
  have old:∀ z,QC anD (fun r=>r.1.sm (n + 1)) (anD (a,z)) []:=fun z=>⟨rfl,rfl,(a,z),rfl,h1,h2,by dsimp only; omega,h4⟩
  (unfold Tryz.f220; refine rn trivial ?_)
  refine rn F ?_
  repeat' (first
    | with_reducible exact ⟨⟩
    | (refine sG F ?_ ?_<;>intro hZ)
    | (refine sB F ?_ ?_<;>intro hZ)
    | refine vp F (c1) ?_
    | refine vp F (c2) ?_
    | refine vp F (c3) ?_
    | refine vp F (c4) ?_
    | refine vp F (c5) ?_
    | refine vp F (c6) ?_
    | (refine Qj (c7) rfl ?_; rintro la hla; refine rn F ?_))
  all_goals first
    | exact old _
    | exact ⟨rfl,rfl,(⟨a.pg,_,a.cp,b,a.lk,a.la,a.ix⟩,_),rfl,hs2,h2,by dsimp only; omega,h4⟩
    | exact ⟨rfl,rfl,(⟨a.pg,_,a.cp,n1,a.lk,a.la,a.ix⟩,_),rfl,hs3,h2,by dsimp only; omega,h4⟩
    | exact ⟨rfl,rfl,(⟨a.pg,_,a.cp,n1,a.lk,a.la,r⟩,_),rfl,hs3,h2,by dsimp only; omega,h5⟩
    | exact ⟨rfl,rfl,(⟨a.pg,_,a.cp,n1,a.lk,la,r⟩,_),rfl,hs3,h2,Nat.le_trans hla (Nat.succ_le_succ h3),h5⟩
    | exact ⟨rfl,rfl,(⟨a.pg,_,a.cp,n2,a.lk,a.la,a.ix⟩,_),rfl,hs4,h2,by dsimp only; omega,h4⟩
    | exact ⟨rfl,rfl,(⟨a.pg,_,a.cp,n2,a.lk,a.la,r⟩,_),rfl,hs4,h2,by dsimp only; omega,h5⟩
    | exact ⟨rfl,rfl,(⟨a.pg,_,a.cp,n2,a.lk,la,r⟩,_),rfl,hs4,h2,Nat.le_trans hla (Nat.succ_le_succ h3),h5⟩
theorem Qoo (x:Lg) (hx:x.es.length<=1000000) (n:Int):VCalls prog 219 [.agg x.c,.int .i64 n] [] (QC anD fun r=>r.1.sm 256):=by
  refine dk Tryz.func219 ?_
  have c1:=Qq1 x hx
  have c2:=QmY n
  (unfold Tryz.f219; refine rn trivial ?_)
  refine rn F ?_
  repeat' (first
    | with_reducible exact ⟨⟩
    | (refine sB F ?_ ?_<;>intro hZ)
    | (refine Qj (c1) rfl ?_; rintro ⟨c,at_,ok⟩ hc; refine rn F ?_)
    | (refine Qj (c2) rfl ?_; rintro ⟨ix,e⟩ hi; refine rn F ?_))
  all_goals first
    | exact ⟨rfl,rfl,(An0,24),rfl,Qtx _⟩
    | exact ⟨rfl,rfl,(⟨n,1,0,[],[],[],ix⟩,0),rfl,QQ _,Nat.zero_le _,Nat.zero_le _,hi⟩
    | exact ⟨rfl,rfl,(⟨n,c.nx,at_,c.tx,[],c.dl,c.ix⟩,0),rfl,hc.1.mono (by decide),Nat.zero_le _,hc.2.1,hc.2.2⟩
    | skip
section
attribute [local go_sem] Qy7 QAD QA8 QA7 Qss QfD Qg3 QcN Qb0 Qaz Qak
structure AnS (x:Lg) where
  i:Nat
  a:An
  hi:i<=x.es.length
  ha:a.sm (256 + i)
structure LoS (l:List Tx) where
  i:Nat
  out:List Tx
  hi:i<=l.length
  ho:out.length<=i
  hs:∀ t ∈ out,t.ss
def Za:List DV:=[.int .i64 0,.int .i64 0,.int .i64 0,.pv (.slc []),.pv (.slc []),.pv (.slc []),.pv (.slc [])]
theorem Qk7 (x:Lg) (hx:x.es.length<=4096) (a:An) (ha:a.sm 10000) (out:List Tx) (ho:smN 65 out):VWp prog (Qhr 8 (Qg3 Tryz.f175)) (Qe6 prog [ResultVar.cell 4 267,ResultVar.tmp 5] 0 (QC anD fun r=>r.1.sm 10000)) ⟨98,0,[(9,.pv (.sl (fz Qae out))),(6,.ptr 2 0),(4,.ptr 1 0),(2,.ptr 0 0)],[⟨25,true,x.c⟩,⟨267,true,Za⟩,⟨267,true,a.d⟩]⟩:=by
  refine Qu _ _ _ ?_
  have c4:=QuJ x (by omega) out ho
  unfold Za
  (unfold Tryz.f175; refine rn trivial ?_)
  refine rn F ?_
  repeat' (first
    | with_reducible exact ⟨⟩
    | (refine sB F ?_ ?_<;>intro hZ)
    | (refine Qj (c4) rfl ?_; rintro ⟨lk,e⟩ hlk; refine rn F ?_))
  · exact ⟨rfl,rfl,(An0,_),rfl,Qtx _⟩
  · exact ⟨rfl,rfl,(⟨a.pg,a.nx,a.cp,out,lk,a.la,a.ix⟩,0),rfl,ho,hlk,ha.2.2.1,ha.2.2.2⟩
theorem Qop (x:Lg) (hx:x.es.length<=4096) (n:Int):VCalls prog 175 [.agg x.c,.int .i64 n] [] (QC anD fun r=>r.1.sm 10000):=by
  refine QcA (fn:=Tryz.f175) (c:=Qg3 Tryz.f175) Tryz.func175 rfl (by kernel_rfl) (by simp [Tryz.f175]) (VWp.postK ?_)
  refine QC6 8 ?_
  have tail:=fun a ha out ho=>Qk7 x hx a ha out ho
  generalize Qhr 8 (Qg3 Tryz.f175) = rest at *
  have c1:=QV x (by omega)
  have c2:=Qoo x (by omega) n
  generalize lgB x = ok at *
  have err:∀ z,QC anD (fun r=>r.1.sm 10000) (anD (An0,z)) []:=fun z=>⟨rfl,rfl,(An0,z),rfl,Qtx _⟩
  (unfold Tryz.f175; refine rn trivial ?_)
  refine rn F ?_
  repeat' (first
    | with_reducible exact ⟨⟩
    | (refine sG F ?_ ?_<;>intro hZ)
    | (refine sB F ?_ ?_<;>intro hZ)
    | refine vp F (c1) ?_
    | (refine Qj (c2) rfl ?_; rintro ⟨a0,e0⟩ h0; refine rn F ?_))
  all_goals first | exact err _ | skip
  dsimp only at h0
  refine Qg (fun s:AnS x=>⟨98,0,[(8,.int .i64 s.i),(6,.ptr 2 0),(4,.ptr 1 0),(2,.ptr 0 0)],[⟨25,true,x.c⟩,⟨267,true,Za⟩,⟨267,true,s.a.d⟩]⟩) (fun s=>x.es.length - s.i) ⟨0,a0,Nat.zero_le _,h0⟩ (gc [0,1,2]) ?_
  rintro ⟨i,a,hi,ha⟩
  dsimp only
  unfold Za
  by_cases hil:i < x.es.length
  · have hg:=QeV x.es i hil
    have c3:=QqW a (256 + i) (by omega) ha (x.es.getD i E0)
    generalize x.es.getD i E0 = e at *
    have F:=@hg
    refine rn F ?_
    repeat' (first
      | with_reducible exact ⟨⟩
      | (refine sB F ?_ ?_<;>intro hZ)
      | (refine Qj (c3) rfl ?_; rintro ⟨a1,e1⟩ h1; refine rn F ?_)
      | (refine Qb (id:=11) [0,1,2,3,4,5,6,7,8] [] (by kernel_rfl) (by kernel_rfl) ?_; refine rn F ?_)
      | (refine Qb (id:=12) [0,1,2,3,4,5] [⟨[],[],6,[1,2,3,4],[7,8,9]⟩,⟨[],[],10,[9],[]⟩,⟨[],[],11,[],[]⟩] (by kernel_rfl) (by kernel_rfl) ?_; refine rn F ?_))
    all_goals first
      | exact err _
      | exact ⟨⟨i + 1,a,hil,ha.1,ha.2.1,Nat.le_succ_of_le ha.2.2.1,ha.2.2.2⟩,by dsimp only; omega,(gc [0,1,2])⟩
      | exact ⟨⟨i + 1,a1,hil,h1⟩,by dsimp only; omega,(gc [0,1,2])⟩
      | skip
  have F:=trivial
  refine rn F ?_
  refine VLoop.nilOwn 9 218 6 rfl ?_
  have hlo:=ha.1.1
  refine Qg (fun s:LoS a.lo=>⟨98,0,[(10,.int .i64 s.i),(9,.own 3 6 0 s.out.length),(6,.ptr 2 0),(4,.ptr 1 0),(2,.ptr 0 0)],[⟨25,true,x.c⟩,⟨267,true,Za⟩,⟨267,true,a.d⟩,⟨218,true,cells Qae s.out⟩]⟩) (fun s=>a.lo.length - s.i) ⟨0,[],Nat.zero_le _,Nat.zero_le _,fun t h=>by simp at h⟩ (gc [0,1,2,3]) ?_
  rintro ⟨k,out,hk,ho,hs⟩
  dsimp only
  unfold Za
  by_cases hkl:k < a.lo.length
  · have hg:=QdN a.lo k hkl
    have hss:(a.lo.getD k Tx0).ss:=by rw [Qk _ _ hkl]; exact ha.1.2 _ (List.getElem_mem hkl)
    have hb:(out.length + 1) * 80<=140737488355328:=Nat.le_trans (Nat.mul_le_mul_right 80 (show out.length + 1<=1000 by omega)) (by decide)
    generalize a.lo.getD k Tx0 = t at *
    have F:=(And.intro @hg @hb)
    refine rn F ?_
    repeat' (first
      | with_reducible exact ⟨⟩
      | (refine sB F ?_ ?_<;>intro hZ))
    · have hl2:(out ++ [t]).length = out.length + 1:=by simp
      refine ⟨⟨k + 1,out ++ [t],hkl,by rw [hl2]; omega,fun z hz=>?_⟩,by dsimp only; omega,?_⟩
      · rcases List.mem_append.1 hz with h | h
        · exact hs z h
        · rw [List.mem_singleton.1 h]; exact hss
      dsimp only
      rw [hl2]
      exact (gc [0,1,2,5])
    · exact ⟨⟨k + 1,out,hkl,by omega,hs⟩,by dsimp only; omega,(gc [0,1,2,3])⟩
  have hsm:smN 65 out:=⟨by omega,hs⟩
  have F:=trivial
  refine rn F ?_
  refine ⟨⟨98,0,[(9,.pv (.sl (fz Qae out))),(6,.ptr 2 0),(4,.ptr 1 0),(2,.ptr 0 0)],[⟨25,true,x.c⟩,⟨267,true,Za⟩,⟨267,true,a.d⟩]⟩,.fzN (n:=3) ⟨rfl,rfl,Nat.zero_le _,by simp,?_,?_⟩,tail a (by have:=ha; exact ⟨this.1,this.2.1,Nat.le_trans this.2.2.1 (by omega),this.2.2.2⟩) out hsm⟩
  · rfl
  · refine ⟨?_,rfl,rfl,rfl,trivial⟩
    (refine rn trivial ?_; try with_reducible exact ⟨⟩)
end
section
attribute [local go_sem] QaZ
structure Rd where
  tx:Int
  pg:Int
  sl:Int
  at_:Int
  cell:Ce
def Qle:Enc Rd:=⟨6,fun r=>[.lit (.int .i64 r.tx),.lit (.int .i64 r.pg),.lit (.int .i64 r.sl),.lit (.int .i64 r.at_),.lit (.bool r.cell.set),.str r.cell.data],by decide,fun _=>rfl⟩
theorem QDW (l:List Rd):(cells Qle l).length = l.length * 6:=QS Qle l
theorem QEL (l:List Rd) (n:Nat) (h:l.length * 6<=n):(cells Qle l).take n = cells Qle l:=by rw [List.take_of_length_le]; rw [QDW]; exact h
theorem QEy {n:Nat} {hp:Qa} {len:Nat} {l:List Rd} (h:l.length = len):QkP n hp 0 6 len (some (cells Qle l)) = some (.sl (fz Qle l)):=QY Qle h
theorem QDD (l:List Rd) (a b c d:Int) (x:Bool) (s:List UInt8):cells Qle l ++ [.pv (.lit (.int .i64 a)),.pv (.lit (.int .i64 b)),.pv (.lit (.int .i64 c)),.pv (.lit (.int .i64 d)),.pv (.lit (.bool x)),.pv (.str s)] = cells Qle (l ++ [⟨a,b,c,d,⟨x,s⟩⟩]):=by rw [QE]; rfl
attribute [go_sem] QDW QEL QEy QDD
structure Sp where
  kind:Int
  tx:Int
  pg:Int
  torn:Int
  cut:Int
  a:Ac
@[go_sem] def Sp.d (t:Sp):List DV:=[.int .i64 t.kind,.int .i64 t.tx,.int .i64 t.pg,.int .i64 t.torn,.int .i64 t.cut,.int .i64 t.a.kind,.int .i64 t.a.pg,.int .i64 t.a.sl,.pv (.str t.a.data)]
structure Sc where
  s:Sv
  tx:List Int
  rd:List Rd
  dead:Bool
def Sc.sm (c:Sc) (n:Nat):Prop:=c.s.sm/\c.tx.length<=n/\c.rd.length<=n
@[go_sem] def scB (c:Sc) (i j:Nat):Blk:=⟨136,true,c.s.d ++ [.own i 1 0 c.tx.length,.own j 6 0 c.rd.length,.bool c.dead]⟩
@[go_sem] def scT (l:List Int):Blk:=⟨3,true,cells QN l⟩
@[go_sem] def scR (l:List Rd):Blk:=⟨175,true,cells Qle l⟩
@[go_sem] def QsQ:Blk:=⟨3,false,[]⟩
@[go_sem] def QoU:Blk:=⟨175,false,[]⟩
def ScEnd {α:Type} (f:α->DV) (Q:Nat->Sc->α->Prop):DV->Qa->Prop:=fun r h'=>∃ c a B,r = f a/\(f a).nums (fun _=>false) = true/\((Q 0 c a/\h' = scB c 1 2 :: scT c.tx :: scR c.rd :: [B])\/(Q 1 c a/\h' = scB c 3 2 :: QsQ :: scR c.rd :: scT c.tx :: [B])\/(Q 2 c a/\h' = scB c 1 3 :: scT c.tx :: QoU :: scR c.rd :: [B]))
theorem ScEnd.mono {α:Type} {f:α->DV} {Q Q':Nat->Sc->α->Prop} (h:∀ n c a,Q n c a->Q' n c a):∀ r h',ScEnd f Q r h'->ScEnd f Q' r h'
  | _,_,⟨c,a,B,e1,e2,.inl ⟨q,e⟩⟩=>⟨c,a,B,e1,e2,.inl ⟨h _ _ _ q,e⟩⟩
  | _,_,⟨c,a,B,e1,e2,.inr (.inl ⟨q,e⟩)⟩=>⟨c,a,B,e1,e2,.inr (.inl ⟨h _ _ _ q,e⟩)⟩
  | _,_,⟨c,a,B,e1,e2,.inr (.inr ⟨q,e⟩)⟩=>⟨c,a,B,e1,e2,.inr (.inr ⟨h _ _ _ q,e⟩)⟩
theorem QjJ {α:Type} {f:α->DV} {Q:Nat->Sc->α->Prop} {P:Program} {g:FuncId} {args args0:List DV} {hp:Qa} {K:DV->Qa->Prop} {c:Sc} (k0 k1 k2:Nat) (cc:VCalls P g args0 [scB c 1 2,scT c.tx,scR c.rd] (ScEnd f Q)) (hk0:hp[k0]? = some (scB c k1 k2)) (hk1:hp[k1]? = some (scT c.tx)) (hk2:hp[k2]? = some (scR c.rd)) (n01:k0 ≠ k1) (n02:k0 ≠ k2) (n12:k1 ≠ k2)
    (ha0:args0 = args.map (DV.ren fun j=>[k0,k1,k2].idxOf j)) (ha:DV.nums.go [k0,k1,k2].contains args = true)
    (hN:∀ c a,Q 0 c a->∀ B,K (f a) (((hp.set k0 (scB c k1 k2)).set k1 (scT c.tx)).set k2 (scR c.rd) ++ [B]))
    (hT:∀ c a,Q 1 c a->∀ B,K (f a) (((hp.set k0 (scB c hp.length k2)).set k1 QsQ).set k2 (scR c.rd) ++ scT c.tx :: [B]))
    (hR:∀ c a,Q 2 c a->∀ B,K (f a) (((hp.set k0 (scB c k1 hp.length)).set k1 (scT c.tx)).set k2 QoU ++ scR c.rd :: [B])):VCalls P g args hp K:=by
  have l0:k0 < hp.length:=(List.getElem?_eq_some_iff.1 hk0).1
  have l1:k1 < hp.length:=(List.getElem?_eq_some_iff.1 hk1).1
  have l2:k2 < hp.length:=(List.getElem?_eq_some_iff.1 hk2).1
  have q1:(k0 == k1) = false:=by simp [n01]
  have q2:(k0 == k2) = false:=by simp [n02]
  have q3:(k1 == k2) = false:=by simp [n12]
  have rt:∀ (σ:Nat->Nat) l,Qdt σ (scT l) = scT l:=fun σ l=>QaF (Qq _ _ _)
  have rr:∀ (σ:Nat->Nat) l,Qdt σ (scR l) = scR l:=fun σ l=>QaF (Qq _ _ _)
  have rs:∀ (σ:Nat->Nat) (c:Sc) i j,Qdt σ (scB c i j) = scB c (σ i) (σ j):=fun σ c i j=>rfl
  have i0:[k0,k1,k2].idxOf k0 = 0:=by simp
  have i1:[k0,k1,k2].idxOf k1 = 1:=by simp [List.idxOf_cons,q1]
  have i2:[k0,k1,k2].idxOf k2 = 2:=by simp [List.idxOf_cons,q2,q3]
  refine (VCalls.frame [k0,k1,k2] (by simp [n01,n02,n12]) ?_ ?_ cc ha0 ha).mono ?_
  · simp only [QrZ,List.map_cons,List.map_nil,hk0,hk1,hk2,Option.map_some,Qh,rt,rr,rs,i1,i2]
  · unfold Qnk
    rw [List.all_eq_true]
    intro k hk
    simp only [List.mem_cons,List.not_mem_nil,or_false] at hk
    rcases hk with rfl | rfl | rfl
    · rw [hk0]
      simp [scB,Sv.d,DV.nums,DV.nums.go]
    · rw [hk1]
      dsimp only
      rw [show (scT c.tx).cells = cells QN c.tx from rfl,QU _ _ (Qq _ _ _)]; simp
    · rw [hk2]
      dsimp only
      rw [show (scR c.rd).cells = cells Qle c.rd from rfl,QU _ _ (Qq _ _ _)]; simp
  · rintro r h2 ⟨r0,h',⟨c1,a,B,rfl,hn,e⟩,-,rfl,rfl⟩
    rw [Qe9 _ _ hn]
    have b1:back [k0,k1,k2] hp.length 1 = k1:=rfl
    have b2:back [k0,k1,k2] hp.length 2 = k2:=rfl
    have b3:back [k0,k1,k2] hp.length 3 = hp.length:=rfl
    have rI:∀ (σ:Nat->Nat),Qdt σ QsQ = QsQ:=fun σ=>rfl
    have rO:∀ (σ:Nat->Nat),Qdt σ QoU = QoU:=fun σ=>rfl
    rcases e with ⟨q,rfl⟩ | ⟨q,rfl⟩ | ⟨q,rfl⟩<;>rw [Qk3 l0 l1 l2 n01 n02 n12]
    · rw [rs,rt,rr,b1,b2]; exact hN c1 a q _
    · rw [rs,rI,rr,b2,b3,List.map_cons,rt]; exact hT c1 a q _
    · rw [rs,rt,rO,b1,b3,List.map_cons,rr]; exact hR c1 a q _
def Qfw (e:Int):Rs:=if e = 0 then ⟨1,0,0,Ce0,0⟩ else QaC e
theorem Qd9 (e:Int):VCalls prog 94 [.int .i64 e] [] (Ret (.agg (Qfw e).d)):=by
  refine dd Tryz.func94 ?_
  have c1:=Qac e
  (unfold Tryz.f94; refine rn trivial ?_)
  unfold Qfw
  refine rn F ?_
  repeat' (first
    | with_reducible exact ⟨⟩
    | (refine sB F ?_ ?_<;>intro hZ)
    | refine vp F (c1) ?_)
  all_goals first
    | (rw [if_pos (by assumption)]; first | done | rfl)
    | (rw [if_neg (by assumption)]; first | done | rfl)
@[go_sem] def rsD (r:Rs):DV:=.agg r.d
theorem Qgm (c:Sc) (s:Sv) (e:Int):VCalls prog 90 [.ptr 0 0,.agg s.d,.int .i64 e] [scB c 1 2,scT c.tx,scR c.rd] (ScEnd rsD fun n c' r=>n = 0/\c' = ⟨if e = 0 then s else c.s,c.tx,c.rd,c.dead⟩/\r = Qfw e):=by
  refine QM (fn:=Tryz.f90) Tryz.func90 rfl (by kernel_rfl) (by simp [Tryz.f90]) ?_
  have c1:=Qd9 e
  (unfold Tryz.f90; refine rn trivial ?_)
  refine rn F ?_
  repeat' (first
    | with_reducible exact ⟨⟩
    | (refine sB F ?_ ?_<;>intro hZ)
    | refine vp F (c1) ?_)
  · exact Qz ⟨15,3,[(6,.ptr 3 0)],[scB ⟨s,c.tx,c.rd,c.dead⟩ 1 2,scT c.tx,scR c.rd,⟨138,true,(Qfw e).d⟩]⟩ (gc [0,1,2,4]) ⟨⟨s,c.tx,c.rd,c.dead⟩,Qfw e,_,rfl,rfl,.inl ⟨⟨rfl,by rw [if_pos (by assumption)],rfl⟩,rfl⟩⟩
  · exact Qz ⟨15,3,[(6,.ptr 3 0)],[scB c 1 2,scT c.tx,scR c.rd,⟨138,true,(Qfw e).d⟩]⟩ (gc [0,1,2,4]) ⟨c,Qfw e,_,rfl,rfl,.inl ⟨⟨rfl,by rw [if_neg (by assumption)],rfl⟩,rfl⟩⟩
end
section
attribute [local go_sem] QaZ
def scQ (c:Sc) (n m:Nat) (c':Sc) (_:Rs):Prop:=m ≠ 1/\c'.sm n/\c'.dead = c.dead/\Ev c.s.k.lg c'.s.k.lg
theorem Qul (c:Sc) (n:Nat) (hc:c.sm n) (r:Rs):scQ c (n + 1) 0 c r:=⟨by decide,⟨hc.1,Nat.le_succ_of_le hc.2.1,Nat.le_succ_of_le hc.2.2⟩,rfl,Ev.refl _⟩
theorem QBz (c:Sc) (n:Nat) (hn:n<=2000) (hc:c.sm n) (t:Sp):VCalls prog 91 [.ptr 0 0,.agg t.d] [scB c 1 2,scT c.tx,scR c.rd] (ScEnd rsD (scQ c (n + 1))):=by
  refine QM (fn:=Tryz.f91) Tryz.func91 rfl (by kernel_rfl) (by simp [Tryz.f91]) ?_
  have c1:=Qac 16
  have hq0:=Qul c n hc
  have h1:=hc.2.1
  have h2:=hc.2.2
  by_cases h0:∃ i:Nat,i < c.tx.length/\t.tx = i + 1
  rotate_left
  · have h3:t.tx < 1\/c.tx.length < t.tx:=by
      by_cases ha:t.tx < 1
      · exact .inl ha
      · by_cases hb:c.tx.length < t.tx
        · exact .inr hb
        · exact absurd ⟨(t.tx - 1).toNat,by omega,by omega⟩ h0
    (unfold Tryz.f91; refine rn trivial ?_)
    refine rn F ?_
    repeat' (first
      | with_reducible exact ⟨⟩
      | (refine sG F ?_ ?_<;>intro hZ)
      | refine vp F (c1) ?_
      | (refine Qb (id:=1) [0,1,2,3,4,5,6,7,8,9,10,11,12,13,14,15,16,17,18,19,20,21,22,23,24] [] (by kernel_rfl) (by kernel_rfl) ?_; refine rn F ?_))
    all_goals first
      | (exfalso; omega)
      | exact Qz ⟨95,3,[(4,.ptr 3 0)],[scB c 1 2,scT (Sc.tx c),scR (Sc.rd c),⟨138,true,Rs.d (QaC 16)⟩]⟩ (gc [0,1,2,4]) ⟨c,QaC 16,_,rfl,rfl,.inl ⟨hq0 _,rfl⟩⟩
      | skip
  obtain ⟨i,hi,ht⟩:=h0
  have hg:=QeZ c.tx i hi
  have d1:=QBn c.s hc.1 (c.tx.getD i 0) t.a
  have e1:(↑i + 1 - 1:Int) = ↑i:=by omega
  have hlt:(i < c.tx.length) = True:=eq_true hi
  (unfold Tryz.f91; refine rn trivial ?_)
  simp only [ht]
  have F:=(And.intro @hg (And.intro @e1 @hlt))
  refine rn F ?_
  repeat' (first
    | with_reducible exact ⟨⟩
    | (refine sG F ?_ ?_<;>intro hZ)
    | (refine sB F ?_ ?_<;>intro hZ)
    | refine vp F (c1) ?_
    | (refine Qj (d1) rfl ?_; rintro ⟨s2,r2⟩ hq; refine rn F ?_)
    | refine vp F (Qea s2.k.lg (Nat.le_trans hq.1.1.1 (by decide))) ?_
    | (refine Qb (id:=1) [0,1,2,3,4,5,6,7,8,9,10,11,12,13,14,15,16,17,18,19,20,21,22,23,24] [] (by kernel_rfl) (by kernel_rfl) ?_; refine rn F ?_)
    | (refine Qb (id:=3) [0,1,2,3,4,5,6,7,8] [⟨[],[],9,[],[]⟩] (by kernel_rfl) (by kernel_rfl) ?_; refine rn F ?_)
    | (refine Qb (id:=4) [0,1,2,3,4,5,6] [⟨[11,12],[],7,[0,1,2,5],[8,9,10]⟩,⟨[11,12],[11],13,[10],[]⟩,⟨[12],[12],14,[],[]⟩] (by kernel_rfl) (by kernel_rfl) ?_; refine rn F ?_)
    | (refine Qb (id:=9) [0,1,2,3,4,5,6,7,8,9,10,11,12,13,14,16,17] [⟨[],[],15,[0,1,2,3,4,5,6,7,8,9,10,11,12,13,16,17],[18]⟩,⟨[19],[19],20,[0,1,2,3,5,6,7,8,9,10,11,12,13,14,16,17,18],[21,22]⟩,⟨[],[],23,[21],[]⟩] (by kernel_rfl) (by kernel_rfl) ?_; refine rn F ?_))
  all_goals first
    | exact Qz ⟨95,3,[(4,.ptr 3 0)],[scB c 1 2,scT (Sc.tx c),scR (Sc.rd c),⟨138,true,Rs.d (QaC 16)⟩]⟩ (gc [0,1,2,4]) ⟨c,QaC 16,_,rfl,rfl,.inl ⟨hq0 _,rfl⟩⟩
    | exact Qz ⟨95,3,[(4,.ptr 3 0)],[scB c 1 2,scT (Sc.tx c),scR (Sc.rd c),⟨138,true,Rs.d (r2)⟩]⟩ (gc [0,1,2,4]) ⟨c,r2,_,rfl,rfl,.inl ⟨hq0 _,rfl⟩⟩
    | exact Qz ⟨95,3,[(4,.ptr 3 0)],[scB ⟨s2,c.tx,c.rd,c.dead⟩ 1 2,scT (Sc.tx ⟨s2,c.tx,c.rd,c.dead⟩),scR (Sc.rd ⟨s2,c.tx,c.rd,c.dead⟩),⟨138,true,Rs.d (r2)⟩]⟩ (gc [0,1,2,4]) ⟨⟨s2,c.tx,c.rd,c.dead⟩,r2,_,rfl,rfl,.inl ⟨⟨by decide,⟨hq.1,by dsimp only; omega,by dsimp only; omega⟩,rfl,hq.2⟩,rfl⟩⟩
    | skip
  have hl:(c.rd ++ [(⟨c.tx.getD i 0,t.a.pg,t.a.sl,QcL s2.k.lg,r2.cell⟩:Rd)]).length = c.rd.length + 1:=by simp
  generalize hr:c.rd ++ [(⟨c.tx.getD i 0,t.a.pg,t.a.sl,QcL s2.k.lg,r2.cell⟩:Rd)] = rd at *
  rw [<- hl]
  exact Qz ⟨95,3,[(4,.ptr 4 0)],[scB ⟨s2,c.tx,rd,c.dead⟩ 1 3,scT c.tx,QoU,scR rd,⟨138,true,r2.d⟩]⟩ (gc [0,1,2,8,4]) ⟨⟨s2,c.tx,rd,c.dead⟩,r2,_,rfl,rfl,.inr (.inr ⟨⟨by decide,⟨hq.1,by dsimp only; omega,by dsimp only; omega⟩,rfl,hq.2⟩,rfl⟩)⟩
end
section
attribute [local go_sem] QaZ
def scI (I:Lg->Prop) (c:Sc) (n _:Nat) (c':Sc) (_:Rs):Prop:=c'.sm n/\(I c.s.k.lg->I c'.s.k.lg)
theorem QmP (I:Lg->Prop) (c:Sc) (n:Nat) (hc:c.sm n) (r:Rs):scI I c (n + 1) 0 c r:=⟨⟨hc.1,Nat.le_succ_of_le hc.2.1,Nat.le_succ_of_le hc.2.2⟩,id⟩
abbrev Qg9 (I:Lg->Prop) (c:Sc) (n:Nat) (t:Sp):Prop:=VCalls prog 70 [.ptr 0 0,.agg t.d] [scB c 1 2,scT c.tx,scR c.rd] (ScEnd rsD (scI I c (n + 1)))
theorem Qr4 (I:Lg->Prop) (hI:∀ x y,Ev x y->I x->I y) {s s2:Sv} {e:Int} (hs:s.sm) (hq:s2.sm/\(e = 0->Ev s.k.lg s2.k.lg)):(if e = 0 then s2 else s).sm/\(I s.k.lg->I (if e = 0 then s2 else s).k.lg):=by
  split
  · rename_i h; exact ⟨hq.1,hI _ _ (hq.2 h)⟩
  · exact ⟨hs,id⟩
theorem Quv (I:Lg->Prop) (hI:∀ x y,Ev x y->I x->I y) (c:Sc) (n:Nat) (hn:n<=2000) (hc:c.sm n) (t:Sp) (ht:t.kind = 3):Qg9 I c n t:=by
  refine QM (fn:=Tryz.f70) Tryz.func70 rfl (by kernel_rfl) (by simp [Tryz.f70]) ?_
  obtain ⟨k,tx,pg,torn,cut,a⟩:=t
  dsimp only at ht
  subst ht
  have c1:=QqL c.s hc.1 pg
  (unfold Tryz.f70; refine rn trivial ?_)
  refine rn F ?_
  repeat' (first
    | with_reducible exact ⟨⟩
    | (refine Qj (c1) rfl ?_; rintro ⟨s2,e2⟩ hq; refine rn F ?_)
    | (refine QbE (id:=12) [[],[],[1],[1,2],[1,2,3],[],[5],[1,2,3,4,5,6],[1,2,3,4,5,6,7],[1,2,3,4,5,6,7],[0,1,2,3,4,5,6,7,8,9],[0,1,2,3,4,5,6,7,8,9,10]] [0,1,2,3,4,5,6] [⟨[],[],7,[0],[8,9]⟩,⟨[],[],10,[],[]⟩,⟨[],[],11,[],[]⟩] (by kernel_rfl) (by kernel_rfl) (by kernel_rfl) ?_; refine rn F ?_))
  refine QjJ (c:=c) 0 1 2 (Qgm c s2 e2) rfl rfl rfl (by decide) (by decide) (by decide) rfl rfl ?_ (fun _ _ h=>absurd h.1 (by decide)) (fun _ _ h=>absurd h.1 (by decide))
  rintro _ _ ⟨-,rfl,rfl⟩ B
  obtain ⟨k1,k2⟩:=Qr4 I hI hc.1 hq
  generalize (if e2 = 0 then s2 else c.s) = s' at *
  refine rn trivial ?_
  exact Qz ⟨132,3,[(4,.ptr 3 0)],[scB ⟨s',c.tx,c.rd,c.dead⟩ 1 2,scT (Sc.tx ⟨s',c.tx,c.rd,c.dead⟩),scR (Sc.rd ⟨s',c.tx,c.rd,c.dead⟩),⟨138,true,Rs.d (Qfw e2)⟩]⟩ (gc [0,1,2,4]) ⟨⟨s',c.tx,c.rd,c.dead⟩,Qfw e2,_,rfl,rfl,.inl ⟨⟨⟨k1,Nat.le_succ_of_le hc.2.1,Nat.le_succ_of_le hc.2.2⟩,k2⟩,rfl⟩⟩
theorem Quu (I:Lg->Prop) (hI:∀ x y,Ev x y->I x->I y) (c:Sc) (n:Nat) (hn:n<=2000) (hc:c.sm n) (t:Sp) (ht:t.kind = 4):Qg9 I c n t:=by
  refine QM (fn:=Tryz.f70) Tryz.func70 rfl (by kernel_rfl) (by simp [Tryz.f70]) ?_
  obtain ⟨k,tx,pg,torn,cut,a⟩:=t
  dsimp only at ht
  subst ht
  have c1:=QqO c.s hc.1
  (unfold Tryz.f70; refine rn trivial ?_)
  refine rn F ?_
  repeat' (first
    | with_reducible exact ⟨⟩
    | (refine Qj (c1) rfl ?_; rintro ⟨s2,n2,e2⟩ hq; refine rn F ?_))
  refine QjJ (c:=c) 0 1 2 (Qgm c s2 e2) rfl rfl rfl (by decide) (by decide) (by decide) rfl rfl ?_ (fun _ _ h=>absurd h.1 (by decide)) (fun _ _ h=>absurd h.1 (by decide))
  rintro _ _ ⟨-,rfl,rfl⟩ B
  obtain ⟨k1,k2⟩:=Qr4 I hI hc.1 hq
  generalize (if e2 = 0 then s2 else c.s) = s' at *
  refine rn trivial ?_
  exact Qz ⟨132,3,[(4,.ptr 3 0)],[scB ⟨s',c.tx,c.rd,c.dead⟩ 1 2,scT (Sc.tx ⟨s',c.tx,c.rd,c.dead⟩),scR (Sc.rd ⟨s',c.tx,c.rd,c.dead⟩),⟨138,true,Rs.d (Qfw e2)⟩]⟩ (gc [0,1,2,4]) ⟨⟨s',c.tx,c.rd,c.dead⟩,Qfw e2,_,rfl,rfl,.inl ⟨⟨⟨k1,Nat.le_succ_of_le hc.2.1,Nat.le_succ_of_le hc.2.2⟩,k2⟩,rfl⟩⟩
theorem Qur (I:Lg->Prop) (hI:∀ x y,Ev x y->I x->I y) (c:Sc) (n:Nat) (hn:n<=2000) (hc:c.sm n) (t:Sp) (ht:t.kind = 7):Qg9 I c n t:=by
  refine QM (fn:=Tryz.f70) Tryz.func70 rfl (by kernel_rfl) (by simp [Tryz.f70]) ?_
  obtain ⟨k,tx,pg,torn,cut,a⟩:=t
  dsimp only at ht
  subst ht
  have c1:=Qyc c.s hc.1
  (unfold Tryz.f70; refine rn trivial ?_)
  refine rn F ?_
  repeat' (first
    | with_reducible exact ⟨⟩
    | (refine Qj (c1) rfl ?_; rintro ⟨s2,n2,e2⟩ hq; refine rn F ?_))
  refine QjJ (c:=c) 0 1 2 (Qgm c s2 e2) rfl rfl rfl (by decide) (by decide) (by decide) rfl rfl ?_ (fun _ _ h=>absurd h.1 (by decide)) (fun _ _ h=>absurd h.1 (by decide))
  rintro _ _ ⟨-,rfl,rfl⟩ B
  obtain ⟨k1,k2⟩:=Qr4 I hI hc.1 hq
  generalize (if e2 = 0 then s2 else c.s) = s' at *
  refine rn trivial ?_
  exact Qz ⟨132,3,[(4,.ptr 3 0)],[scB ⟨s',c.tx,c.rd,c.dead⟩ 1 2,scT (Sc.tx ⟨s',c.tx,c.rd,c.dead⟩),scR (Sc.rd ⟨s',c.tx,c.rd,c.dead⟩),⟨138,true,Rs.d (Qfw e2)⟩]⟩ (gc [0,1,2,4]) ⟨⟨s',c.tx,c.rd,c.dead⟩,Qfw e2,_,rfl,rfl,.inl ⟨⟨⟨k1,Nat.le_succ_of_le hc.2.1,Nat.le_succ_of_le hc.2.2⟩,k2⟩,rfl⟩⟩
theorem Qut (I:Lg->Prop) (hI:∀ x y,Ev x y->I x->I y) (c:Sc) (n:Nat) (hn:n<=2000) (hc:c.sm n) (t:Sp) (ht:t.kind = 5):Qg9 I c n t:=by
  refine QM (fn:=Tryz.f70) Tryz.func70 rfl (by kernel_rfl) (by simp [Tryz.f70]) ?_
  obtain ⟨k,tx,pg,torn,cut,a⟩:=t
  dsimp only at ht
  subst ht
  have c1:=Qea c.s.k.lg (Nat.le_trans hc.1.1.1 (by decide))
  have c2:=QfL c.s.k.lg (Nat.le_trans hc.1.1.1 (by decide)) (QcL c.s.k.lg)
  have c3:=fun e=>Qd9 e
  (unfold Tryz.f70; refine rn trivial ?_)
  refine rn F ?_
  repeat' (first
    | with_reducible exact ⟨⟩
    | (refine sB F ?_ ?_<;>intro hZ)
    | refine vp F (c1) ?_
    | refine vp F (c2) ?_
    | refine vp F (c3 _) ?_
    | (refine QbE (id:=17) [[],[0],[0,1],[0,1,2],[0,1,2,3],[0,1,2,3,4],[],[6],[6,7],[6,7,8],[6,7,8,9],[6,7,8,9,10],[6,7,8,9,10,11],[0,1,2,3,4,5,6,7,8,9,10,11,12],[0,1,2,3,4,5,6,7,8,9,10,11,12,13],[0,1,2,3,4,5,6,7,8,9,10,11,12,13,14],[0,1,2,3,4,5,6,7,8,9,10,11,12,13,14],[],[0,1,2,3,4,5,6,7,8,9,10,11,12,13,14,15,17],[0,1,2,3,4,5,6,7,8,9,10,11,12,13,14,15,16,17,18]] [0,1,2,3,4,5,6,7,8,9,10,11] [⟨[17],[],12,[0,1,2,3,4,5],[]⟩,⟨[17],[],13,[],[14,15,16]⟩,⟨[17],[17],18,[16],[]⟩,⟨[],[],19,[],[]⟩] (by kernel_rfl) (by kernel_rfl) (by kernel_rfl) ?_; refine rn F ?_))
  · exact Qz ⟨132,3,[(4,.ptr 3 0)],[scB ⟨⟨⟨c.s.k.pg,c.s.k.nx,(Q9 c.s.k.lg (QcL c.s.k.lg)).1,c.s.k.pl,c.s.k.lk,c.s.k.tx,c.s.k.ix,c.s.k.la⟩,c.s.v⟩,c.tx,c.rd,c.dead⟩ 1 2,scT (Sc.tx ⟨⟨⟨c.s.k.pg,c.s.k.nx,(Q9 c.s.k.lg (QcL c.s.k.lg)).1,c.s.k.pl,c.s.k.lk,c.s.k.tx,c.s.k.ix,c.s.k.la⟩,c.s.v⟩,c.tx,c.rd,c.dead⟩),scR (Sc.rd ⟨⟨⟨c.s.k.pg,c.s.k.nx,(Q9 c.s.k.lg (QcL c.s.k.lg)).1,c.s.k.pl,c.s.k.lk,c.s.k.tx,c.s.k.ix,c.s.k.la⟩,c.s.v⟩,c.tx,c.rd,c.dead⟩),⟨138,true,Rs.d (Qfw _)⟩]⟩ (gc [0,1,2,4]) ⟨⟨⟨⟨c.s.k.pg,c.s.k.nx,(Q9 c.s.k.lg (QcL c.s.k.lg)).1,c.s.k.pl,c.s.k.lk,c.s.k.tx,c.s.k.ix,c.s.k.la⟩,c.s.v⟩,c.tx,c.rd,c.dead⟩,Qfw _,_,rfl,rfl,.inl ⟨⟨⟨⟨⟨Qia _ _ hc.1.1.1,hc.1.1.2⟩,hc.1.2⟩,Nat.le_succ_of_le hc.2.1,Nat.le_succ_of_le hc.2.2⟩,hI _ _ (Qer (by assumption))⟩,rfl⟩⟩
  · exact Qz ⟨132,3,[(4,.ptr 3 0)],[scB c 1 2,scT (Sc.tx c),scR (Sc.rd c),⟨138,true,Rs.d (Qfw _)⟩]⟩ (gc [0,1,2,4]) ⟨c,Qfw _,_,rfl,rfl,.inl ⟨QmP I c n hc _,rfl⟩⟩
theorem Quw (I:Lg->Prop) (hI:∀ x y,Ev x y->I x->I y) (c:Sc) (n:Nat) (hn:n<=2000) (hc:c.sm n) (t:Sp) (ht:t.kind = 2):Qg9 I c n t:=by
  refine QM (fn:=Tryz.f70) Tryz.func70 rfl (by kernel_rfl) (by simp [Tryz.f70]) ?_
  obtain ⟨k,tx,pg,torn,cut,a⟩:=t
  dsimp only at ht
  subst ht
  (unfold Tryz.f70; refine rn trivial ?_)
  refine QjJ (c:=c) 0 1 2 (QBz c n hn hc ⟨2,tx,pg,torn,cut,a⟩) rfl rfl rfl (by decide) (by decide) (by decide) rfl rfl ?_ (fun _ _ h=>absurd rfl h.1) ?_
  · rintro c1 r1 ⟨-,q1,-,q2⟩ B
    refine rn trivial ?_
    exact Qz ⟨132,3,[(4,.ptr 3 0)],[scB c1 1 2,scT (Sc.tx c1),scR (Sc.rd c1),⟨138,true,Rs.d (r1)⟩]⟩ (gc [0,1,2,4]) ⟨c1,r1,_,rfl,rfl,.inl ⟨⟨q1,hI _ _ q2⟩,rfl⟩⟩
  · rintro c1 r1 ⟨-,q1,-,q2⟩ B
    refine rn trivial ?_
    exact Qz ⟨132,3,[(4,.ptr 4 0)],[scB c1 1 3,scT c1.tx,QoU,scR c1.rd,⟨138,true,r1.d⟩]⟩ (gc [0,1,2,5,4]) ⟨c1,r1,_,rfl,rfl,.inr (.inr ⟨⟨q1,hI _ _ q2⟩,rfl⟩)⟩
theorem Qux (I:Lg->Prop) (hI:∀ x y,Ev x y->I x->I y) (c:Sc) (n:Nat) (hn:n<=2000) (hc:c.sm n) (t:Sp) (ht:t.kind = 1):Qg9 I c n t:=by
  refine QM (fn:=Tryz.f70) Tryz.func70 rfl (by kernel_rfl) (by simp [Tryz.f70]) ?_
  obtain ⟨k,tx,pg,torn,cut,a⟩:=t
  dsimp only at ht
  subst ht
  have c1:=QqP c.s hc.1
  (unfold Tryz.f70; refine rn trivial ?_)
  have hb:(c.tx.length + 1) * 8<=140737488355328:=by have:=hc.2.1; omega
  have F:=@hb
  refine rn F ?_
  repeat' (first
    | with_reducible exact ⟨⟩
    | (refine sB F ?_ ?_<;>intro hZ)
    | (refine Qj (c1) rfl ?_; rintro ⟨s2,n2,e2⟩ hq; refine rn F ?_))
  rotate_left
  · refine QjJ (c:=c) 0 1 2 (Qgm c s2 e2) rfl rfl rfl (by decide) (by decide) (by decide) rfl rfl ?_ (fun _ _ h=>absurd h.1 (by decide)) (fun _ _ h=>absurd h.1 (by decide))
    rintro _ _ ⟨-,rfl,rfl⟩ B
    obtain ⟨k1,k2⟩:=Qr4 I hI hc.1 hq
    generalize (if e2 = 0 then s2 else c.s) = s' at *
    refine rn trivial ?_
    exact Qz ⟨132,3,[(4,.ptr 3 0)],[scB ⟨s',c.tx,c.rd,c.dead⟩ 1 2,scT (Sc.tx ⟨s',c.tx,c.rd,c.dead⟩),scR (Sc.rd ⟨s',c.tx,c.rd,c.dead⟩),⟨138,true,Rs.d ({ Qfw e2 with tx:=n2 })⟩]⟩ (gc [0,1,2,4]) ⟨⟨s',c.tx,c.rd,c.dead⟩,{ Qfw e2 with tx:=n2 },_,rfl,rfl,.inl ⟨⟨⟨k1,Nat.le_succ_of_le hc.2.1,Nat.le_succ_of_le hc.2.2⟩,k2⟩,rfl⟩⟩
  have hl:(c.tx ++ [n2]).length = c.tx.length + 1:=by simp
  generalize c.tx ++ [n2] = l at *
  rw [<- hl]
  refine QjJ (c:=⟨c.s,l,c.rd,c.dead⟩) 0 7 2 (Qgm ⟨c.s,l,c.rd,c.dead⟩ s2 e2) rfl rfl rfl (by decide) (by decide) (by decide) rfl rfl ?_ (fun _ _ h=>absurd h.1 (by decide)) (fun _ _ h=>absurd h.1 (by decide))
  rintro _ _ ⟨-,rfl,rfl⟩ B
  obtain ⟨k1,k2⟩:=Qr4 I hI hc.1 hq
  generalize (if e2 = 0 then s2 else c.s) = s' at *
  have h1:=hc.2.1
  refine rn trivial ?_
  exact Qz ⟨132,3,[(4,.ptr 4 0)],[scB ⟨s',l,c.rd,c.dead⟩ 3 2,QsQ,scR c.rd,scT l,⟨138,true,Rs.d { Qfw e2 with tx:=n2 }⟩]⟩ (gc [0,1,2,7,4]) ⟨⟨s',l,c.rd,c.dead⟩,{ Qfw e2 with tx:=n2 },_,rfl,rfl,.inr (.inl ⟨⟨⟨k1,by dsimp only; omega,Nat.le_succ_of_le hc.2.2⟩,k2⟩,rfl⟩)⟩
end
section
attribute [local go_sem] QaZ
theorem Qup (I:Lg->Prop) (c:Sc) (n:Nat) (hc:c.sm n) (t:Sp) (h1:t.kind ≠ 1) (h2:t.kind ≠ 2) (h3:t.kind ≠ 3) (h4:t.kind ≠ 4) (h5:t.kind ≠ 5) (h6:t.kind ≠ 6) (h7:t.kind ≠ 7):Qg9 I c n t:=by
  refine QM (fn:=Tryz.f70) Tryz.func70 rfl (by kernel_rfl) (by simp [Tryz.f70]) ?_
  have c1:=Qac 1
  (unfold Tryz.f70; refine rn (And.intro @h1 (And.intro @h2 (And.intro @h3 (And.intro @h4 (And.intro @h5 (And.intro @h6 @h7)))))) ?_)
  have F:=(And.intro @h1 (And.intro @h2 (And.intro @h3 (And.intro @h4 (And.intro @h5 (And.intro @h6 @h7))))))
  refine rn F ?_
  repeat' (first
    | with_reducible exact ⟨⟩
    | refine vp F (c1) ?_)
  exact Qz ⟨132,3,[(4,.ptr 3 0)],[scB c 1 2,scT (Sc.tx c),scR (Sc.rd c),⟨138,true,Rs.d (QaC 1)⟩]⟩ (gc [0,1,2,4]) ⟨c,QaC 1,_,rfl,rfl,.inl ⟨QmP I c n hc _,rfl⟩⟩
theorem Quq (I:Lg->Prop) (hI:∀ x y,Ev x y->I x->I y) (c:Sc) (n:Nat) (hn:n<=2000) (hc:c.sm n) (t:Sp) (h6:t.kind = 6->Qg9 I c n t):Qg9 I c n t:=by
  by_cases q1:t.kind = 1
  · exact Qux I hI c n hn hc t q1
  by_cases q2:t.kind = 2
  · exact Quw I hI c n hn hc t q2
  by_cases q3:t.kind = 3
  · exact Quv I hI c n hn hc t q3
  by_cases q4:t.kind = 4
  · exact Quu I hI c n hn hc t q4
  by_cases q5:t.kind = 5
  · exact Qut I hI c n hn hc t q5
  by_cases q6:t.kind = 6
  · exact h6 q6
  by_cases q7:t.kind = 7
  · exact Qur I hI c n hn hc t q7
  exact Qup I c n hc t q1 q2 q3 q4 q5 q6 q7
def Qml:Enc Sp:=⟨9,fun t=>[.lit (.int .i64 t.kind),.lit (.int .i64 t.tx),.lit (.int .i64 t.pg),.lit (.int .i64 t.torn),.lit (.int .i64 t.cut),.lit (.int .i64 t.a.kind),.lit (.int .i64 t.a.pg),.lit (.int .i64 t.a.sl),.str t.a.data],by decide,fun _=>rfl⟩
theorem QDU (l:List Sp):(cells Qml l).length = l.length * 9:=QS Qml l
theorem QEJ (l:List Sp) (n:Nat) (h:l.length * 9<=n):(cells Qml l).take n = cells Qml l:=by rw [List.take_of_length_le]; rw [QDU]; exact h
theorem QEw {n:Nat} {hp:Qa} {len:Nat} {l:List Sp} (h:l.length = len):QkP n hp 0 9 len (some (cells Qml l)) = some (.sl (fz Qml l)):=QY Qml h
def Sp0:Sp:=⟨0,0,0,0,0,0,0,0,[]⟩
theorem QBX (l:List Sp) (i:Nat) (h:i < l.length):(fz Qml l)[i]? = some [.lit (.int .i64 (l.getD i Sp0).kind),.lit (.int .i64 (l.getD i Sp0).tx),.lit (.int .i64 (l.getD i Sp0).pg),.lit (.int .i64 (l.getD i Sp0).torn),.lit (.int .i64 (l.getD i Sp0).cut),.lit (.int .i64 (l.getD i Sp0).a.kind),.lit (.int .i64 (l.getD i Sp0).a.pg),.lit (.int .i64 (l.getD i Sp0).a.sl),.str (l.getD i Sp0).a.data]:=QcP Qml l Sp0 i h
attribute [go_sem] QDU QEJ QEw
def QdQ:Enc Rs:=⟨6,fun r=>[.lit (.int .i64 r.st),.lit (.int .i64 r.tx),.lit (.int .i64 r.pg),.lit (.bool r.cell.set),.str r.cell.data,.lit (.int .i64 r.er)],by decide,fun _=>rfl⟩
theorem QBQ (l:List Rs):(cells QdQ l).length = l.length * 6:=QS QdQ l
theorem QDF (l:List Rs) (n:Nat) (h:l.length * 6<=n):(cells QdQ l).take n = cells QdQ l:=by rw [List.take_of_length_le]; rw [QBQ]; exact h
theorem QDs {n:Nat} {hp:Qa} {len:Nat} {l:List Rs} (h:l.length = len):QkP n hp 0 6 len (some (cells QdQ l)) = some (.sl (fz QdQ l)):=QY QdQ h
theorem QCm (l:List Rs) (a b c:Int) (x:Bool) (s:List UInt8) (d:Int):cells QdQ l ++ [.pv (.lit (.int .i64 a)),.pv (.lit (.int .i64 b)),.pv (.lit (.int .i64 c)),.pv (.lit (.bool x)),.pv (.str s),.pv (.lit (.int .i64 d))] = cells QdQ (l ++ [⟨a,b,c,⟨x,s⟩,d⟩]):=by rw [QE]; rfl
attribute [go_sem] QBQ QDF QDs QCm
theorem QD7 (l:List Rd):DV.wk.go (cells Qle l) = cells Qle l:=Qa2 Qle l fun a p hp=>by
  simp [Qle] at hp
  rcases hp with h | h | h | h | h | h<;>subst h<;>rfl
theorem QCY (l:List Rs):DV.wk.go (cells QdQ l) = cells QdQ l:=Qa2 QdQ l fun a p hp=>by
  simp [QdQ] at hp
  rcases hp with h | h | h | h | h | h<;>subst h<;>rfl
attribute [go_sem] QD7 QCY
structure Ru (I:Lg->Prop) (s:Sv) (l:List Sp) where
  i:Nat
  c:Sc
  out:List Rs
  hi:i<=l.length
  h1:i<=1000
  hc:c.sm i
  ho:out.length = i
  hI:I s.k.lg->I c.s.k.lg
@[go_sem] def QEp (a:Sv × List Rs × List Rd):DV:=.tup [.agg a.1.d,.pv (.sl (fz QdQ a.2.1)),.pv (.sl (fz Qle a.2.2))]
theorem QBg (I:Lg->Prop) (hI:∀ x y,Ev x y->I x->I y) (s:Sv) (hs:s.sm) (l:List Sp) (h6:∀ i,i < l.length->(l.getD i Sp0).kind = 6->∀ c n,n<=2000->c.sm n->Qg9 I c n (l.getD i Sp0)):VCalls prog 54 [.agg s.d,.pv (.sl (fz Qml l))] [] (QC QEp fun a=>a.1.sm/\(I s.k.lg->I a.1.k.lg)):=by
  refine dk Tryz.func54 ?_
  (unfold Tryz.f54; refine rn trivial ?_)
  refine VLoop.nilOwnC 2 18 3 1 rfl rfl ?_
  refine VLoop.nilOwnC 2 19 175 6 rfl rfl ?_
  refine VLoop.nilOwn 8 138 6 rfl ?_
  refine rn trivial ?_
  refine Qg (fun r:Ru I s l=>⟨48,0,[(9,.int .i64 r.i),(8,.own 4 6 0 r.out.length),(7,.ptr 1 0),(4,.ptr 0 0),(1,.pv (.sl (fz Qml l)))],[⟨84,true,Zv⟩,scB r.c 2 3,scT r.c.tx,scR r.c.rd,⟨138,true,cells QdQ r.out⟩]⟩) (fun r=>l.length - r.i) ⟨0,⟨s,[],[],false⟩,[],Nat.zero_le _,by decide,⟨hs,Nat.zero_le _,Nat.zero_le _⟩,rfl,id⟩ (gc [1,2,3,4,5]) ?_
  rintro ⟨i,c,out,hi,h1,hc,ho,h⟩
  dsimp only
  unfold Zv
  have hg:=fun h:i < l.length=>QBX l i h
  have hb:(out.length + 1) * 72<=140737488355328:=by omega
  obtain ⟨sv,tx,rd,dead⟩:=c
  cases dead
  rotate_left
  · skip
    have F:=@hg
    refine rn F ?_
    repeat' (first
      | with_reducible exact ⟨⟩
      | (refine sG F ?_ ?_<;>intro hZ)
      | (refine QbE (id:=7) [[],[0],[0,1],[0,1,2],[],[],[5],[5,6],[5,6,7],[0,1,2,3],[0,1,2,3,4,9],[0,1,2,3,4,5,6,7,8,9,10]] [0,1,2,3,4,5,6,7,8] [⟨[],[],9,[4,5,6,7,8],[]⟩,⟨[],[],10,[5,6,7,8],[]⟩,⟨[],[],11,[],[]⟩] (by kernel_rfl) (by kernel_rfl) (by kernel_rfl) ?_; refine rn F ?_))
    all_goals exact ⟨rfl,rfl,(sv,out,rd),rfl,hc.1,h⟩
  have F:=@hg
  refine rn F ?_
  repeat' (first
    | with_reducible exact ⟨⟩
    | (refine sG F ?_ ?_<;>intro hZ)
    | (refine QbE (id:=7) [[],[0],[0,1],[0,1,2],[],[],[5],[5,6],[5,6,7],[0,1,2,3],[0,1,2,3,4,9],[0,1,2,3,4,5,6,7,8,9,10]] [0,1,2,3,4,5,6,7,8] [⟨[],[],9,[4,5,6,7,8],[]⟩,⟨[],[],10,[5,6,7,8],[]⟩,⟨[],[],11,[],[]⟩] (by kernel_rfl) (by kernel_rfl) (by kernel_rfl) ?_; refine rn F ?_))
  all_goals first | exact ⟨rfl,rfl,(sv,out,rd),rfl,hc.1,h⟩ | skip
  have hil:i < l.length:=by omega
  refine QjJ (c:=⟨sv,tx,rd,false⟩) 1 2 3 (Quq I hI _ i (by omega) hc (l.getD i Sp0) (fun hk=>h6 i hil hk _ i (by omega) hc)) rfl rfl rfl (by decide) (by decide) (by decide) rfl rfl ?_ ?_ ?_
  all_goals
    rintro c1 r1 ⟨q1,q2⟩ B
    refine rn @hb ?_
    have hl2:(out ++ [r1]).length = out.length + 1:=by simp
    refine ⟨⟨i + 1,c1,out ++ [r1],hil,by omega,q1,by rw [hl2]; omega,fun x=>q2 (h x)⟩,by dsimp only; omega,?_⟩
    dsimp only
    rw [hl2]
  · exact (gc [0,1,2,3,7])
  · exact (gc [0,1,5,3,8])
  · exact (gc [0,1,2,5,8])
end
section
attribute [local go_sem] cb cc
theorem Qr1 (i:Nat) (h:i < 12):∃ n:Int,([.pv (.lit (.int .i64 1)),.pv (.lit (.int .i64 1)),.pv (.lit (.int .i64 2)),.pv (.lit (.int .i64 2)),.pv (.lit (.int .i64 2)),.pv (.lit (.int .i64 3)),.pv (.lit (.int .i64 4)),.pv (.lit (.int .i64 5)),.pv (.lit (.int .i64 6)),.pv (.lit (.int .i64 7)),.pv (.lit (.int .i64 2)),.pv (.lit (.int .i64 4))]:List DV)[i]? = some (.int .i64 n):=by
  have e:([.pv (.lit (.int .i64 1)),.pv (.lit (.int .i64 1)),.pv (.lit (.int .i64 2)),.pv (.lit (.int .i64 2)),.pv (.lit (.int .i64 2)),.pv (.lit (.int .i64 3)),.pv (.lit (.int .i64 4)),.pv (.lit (.int .i64 5)),.pv (.lit (.int .i64 6)),.pv (.lit (.int .i64 7)),.pv (.lit (.int .i64 2)),.pv (.lit (.int .i64 4))]:List DV) = ([1,1,2,2,2,3,4,5,6,7,2,4]:List Int).map (DV.int .i64):=rfl
  refine ⟨([1,1,2,2,2,3,4,5,6,7,2,4]:List Int)[i]'h,?_⟩
  rw [e,List.getElem?_map,List.getElem?_eq_getElem h]; rfl
theorem Qws (c:C) (m:Nat) (h1:1<=m) (h2:m<=1000):VCalls prog 98 [.ptr 0 0,.int .i64 m] [cb c] (CX fun r=>∃ a:Ac,r = .agg a.d):=by
  refine dd Tryz.func98 ?_
  (unfold Tryz.f98; refine rn trivial ?_)
  refine QH (k:=0) (c:=c) (QP c 12 (by omega) (by omega)) rfl rfl ?_
  rintro _ c1 ⟨y,rfl,hy⟩
  obtain ⟨n,hn⟩:=Qr1 y hy
  have F:=@hn
  refine rn F ?_
  repeat' (first
    | with_reducible exact ⟨⟩
    | (refine sB F ?_ ?_<;>intro hZ)
    | (refine QH (k:=0) (QP _ 2 (by omega) (by omega)) rfl rfl ?_; rintro _ _ ⟨_,rfl,_⟩; refine rn F ?_)
    | (refine QH (k:=0) (QP _ 40 (by omega) (by omega)) rfl rfl ?_; rintro _ _ ⟨_,rfl,_⟩; refine rn F ?_)
    | (refine QH (k:=0) (QP _ m (by omega) (by omega)) rfl rfl ?_; rintro _ _ ⟨_,rfl,_⟩; refine rn F ?_)
    | (refine QH (k:=0) (QsR _) rfl rfl ?_; rintro _ _ ⟨_,rfl,_⟩; refine rn F ?_)
    | (refine QH (k:=0) (Qr7 _) rfl rfl ?_; rintro _ _ ⟨_,rfl,_⟩; refine rn F ?_))
  all_goals first
    | exact ⟨_,rfl,rfl,Qam _,rfl,⟨⟨_,_,_,_⟩,rfl⟩,_,rfl⟩
    | skip
end
section
attribute [local go_sem] cb cc
theorem QBt (n:Int) (h:1<=n/\n<=64):VCalls prog 69 [.int .i64 n] [] (QC dvD fun a=>dvQ a/\a.2 = 0):=by
  refine dk Tryz.func69 ?_
  have c1:=Qrp n
  (unfold Tryz.f69; refine rn trivial ?_)
  refine rn F ?_
  repeat' (first
    | with_reducible exact ⟨⟩
    | (refine Qj (c1 (by omega)) rfl ?_; rintro l hl; refine rn F ?_))
  all_goals first
    | (exfalso; omega)
    | exact ⟨rfl,rfl,(⟨l,0,false⟩,0),rfl,hl,rfl⟩
    | skip
theorem QBk (n m:Int) (h:1<=n/\n<=64) (h2:1<=m/\m<=64):VCalls prog 68 [.int .i64 n,.int .i64 m] [] (QC kiD fun a=>a.1.sm/\a.2 = 0/\a.1.lg = Lg1):=by
  refine dk Tryz.func68 ?_
  have c1:=QqR m
  have c2:=QmY n
  have c3:=Qyx
  have hf:=Qnc m
  generalize QlV m = p at *
  (unfold Tryz.f68; refine rn trivial ?_)
  refine rn F ?_
  repeat' (first
    | with_reducible exact ⟨⟩
    | refine vp F (c1) ?_
    | (refine Qj (c2) rfl ?_; rintro ⟨l,e⟩ hl; refine rn F ?_)
    | refine vp F (c3) ?_
    | (refine Qb (id:=5) [0,2,3] [⟨[],[],1,[0,2,3],[4]⟩,⟨[],[],5,[],[]⟩,⟨[],[],6,[],[]⟩] (by kernel_rfl) (by kernel_rfl) ?_; refine rn F ?_))
  all_goals first
    | (exfalso; omega)
    | exact ⟨rfl,rfl,(⟨n,1,Lg1,p.1,Lk0,[],l,[]⟩,0),rfl,⟨Nat.zero_le _,by dsimp only; rw [hf]; exact Nat.zero_le _,Nat.zero_le _,QQ _,hl,Nat.zero_le _⟩,rfl,rfl⟩
    | skip
theorem QBe (n m:Int) (h:1<=n/\n<=64) (h2:1<=m/\m<=64):VCalls prog 53 [.int .i64 n,.int .i64 m] [] (QC svD fun a=>a.1.sm/\a.2 = 0/\a.1.k.lg = Lg1):=by
  refine dk Tryz.func53 ?_
  have c1:=QBk n m h h2
  have c2:=QBt n h
  (unfold Tryz.f53; refine rn trivial ?_)
  refine Qj c1 rfl ?_
  rintro ⟨k,e⟩ ⟨hk,he,hg⟩
  dsimp only at hk he hg
  subst he
  refine rn trivial ?_
  refine Qj c2 rfl ?_
  rintro ⟨v,e⟩ ⟨hv,he⟩
  dsimp only at he
  subst he
  refine rn trivial ?_
  exact ⟨rfl,rfl,(⟨k,v⟩,0),rfl,⟨hk,hv⟩,rfl,hg⟩
theorem QDA (l:List Sp) (a b c d e f g h:Int) (s:List UInt8):cells Qml l ++ [.pv (.lit (.int .i64 a)),.pv (.lit (.int .i64 b)),.pv (.lit (.int .i64 c)),.pv (.lit (.int .i64 d)),.pv (.lit (.int .i64 e)),.pv (.lit (.int .i64 f)),.pv (.lit (.int .i64 g)),.pv (.lit (.int .i64 h)),.pv (.str s)] = cells Qml (l ++ [⟨a,b,c,d,e,⟨f,g,h,s⟩⟩]):=by rw [QE]; rfl
def no6 (l:List Sp):Prop:=∀ i,i < l.length->(l.getD i Sp0).kind ≠ 6
structure Sd (most:Nat) where
  k:Nat
  c:C
  l:List Sp
  hk:k + l.length<=most + 2
  h6:no6 l
def spB:Sp:=⟨1,0,0,0,0,⟨0,0,0,[]⟩⟩
def LgI (x:Lg):Prop:=lgB x = true/\x.f = 1
end
theorem QqZ (t:Lk) (h:1024 < t.sum) (h2:t.held.length<=10000000/\t.wait.length<=10000000):VCalls prog 177 [.agg t.d] [] (Ret (.bool false)):=by
  refine dd Tryz.func177 ?_
  unfold Lk.sum at h
  have h':(1024:Int) < t.held.length + t.wait.length:=by omega
  (unfold Tryz.f177; refine rn @h' ?_; try with_reducible exact ⟨⟩)
def Kn.smX (k:Kn):Prop:=k.lg.es.length<=4096/\k.pl.fs.length<=64/\smN 65 k.tx/\k.ix.length<=64/\k.la.length<=10000
theorem Qyu (k:Kn) (hk:k.smX) (h:1024 < k.lk.sum) (hq:k.lk.held.length<=10000000/\k.lk.wait.length<=10000000):VCalls prog 133 [.agg k.d] [] (Ret (.bool false)):=by
  refine dd Tryz.func133 ?_
  obtain ⟨h1,h2,h4,h5,h6⟩:=hk
  have c1:=QV k.lg (by omega)
  have c2:=Qaj k.pl (by omega)
  have c3:=QqZ k.lk h hq
  generalize lgB k.lg = b1 at *
  generalize plB k.pl = b2 at *
  (unfold Tryz.f133; refine rn trivial ?_)
  refine rn F ?_
  repeat' (first
    | with_reducible exact ⟨⟩
    | (refine sG F ?_ ?_<;>intro hZ)
    | refine vp F (c1) ?_
    | refine vp F (c2) ?_
    | refine vp F (c3) ?_)
  all_goals first | rfl | skip
theorem QuM (k:Kn) (hk:k.smX) (h:1024 < k.lk.sum) (hq:k.lk.held.length<=10000000/\k.lk.wait.length<=10000000):VCalls prog 111 [.agg k.d] [] (Ret (.bool false)):=by
  refine dd Tryz.func111 ?_
  have c1:=Qyu k hk h hq
  (unfold Tryz.f111; refine rn trivial ?_)
  refine rn F ?_
  repeat' (first
    | with_reducible exact ⟨⟩
    | refine vp F (c1) ?_)
  all_goals first | rfl | skip
structure AdS (x:Lg) (n:Nat) where
  i:Nat
  k:Kn
  hi:i<=n
  hk:k.sm
  he:Ev x k.lg
theorem Qu6 (x:Lg) (hx:x.es.length<=4096) (a:An) (ha:a.sm 10000) (n:Int):VCalls prog 176 [.agg x.c,.agg a.d,.int .i64 n] [] (QC kiD fun r=>r.1.sm/\(r.2 = 0->Ev x r.1.lg)):=by
  refine dk Tryz.func176 ?_
  obtain ⟨h1,h2,h3,h4⟩:=ha
  have c1:=QqR n
  have hf:=Qnc n
  generalize QlV n = p at *
  obtain ⟨p,e0⟩:=p
  dsimp only at c1 hf
  have err:∀ z,z ≠ 0->QC kiD (fun r=>r.1.sm/\(r.2 = 0->Ev x r.1.lg)) (kiD (Kn0,z)) []:=fun z hz=>⟨rfl,rfl,(Kn0,z),rfl,QbC,fun h=>absurd h hz⟩
  (unfold Tryz.f176; refine rn trivial ?_)
  refine rn F ?_
  repeat' (first
    | with_reducible exact ⟨⟩
    | (refine sB F ?_ ?_<;>intro hZ)
    | refine vp F (c1) ?_)
  all_goals first | exact err 1 (by decide) | skip
  by_cases hs:a.lk.length<=1024
  rotate_left
  · have c2:=QuM ⟨a.pg,a.nx,x,p,⟨a.lk,[]⟩,a.lo,a.ix,a.la⟩ ⟨hx,by dsimp only; rw [hf]; exact Nat.zero_le _,h1,h4,h3⟩ (by unfold Lk.sum; simp; omega) ⟨by dsimp only; omega,Nat.zero_le _⟩
    refine rn F ?_
    refine VCalls.wkH ?_; simp only [QfT,Qep,QdW,QcZ,DV.wk,PV.wk,QC0]
    refine rn F ?_
    repeat' (first
      | with_reducible exact ⟨⟩
      | refine vp F (c2) ?_)
    exact err 15 (by decide)
  have hk0:(⟨a.pg,a.nx,x,p,⟨a.lk,[]⟩,a.lo,a.ix,a.la⟩:Kn).sm:=⟨hx,by dsimp only; rw [hf]; exact Nat.zero_le _,by unfold Lk.sum; simp; omega,h1,h4,h3⟩
  have c2:=QW ⟨a.pg,a.nx,x,p,⟨a.lk,[]⟩,a.lo,a.ix,a.la⟩ hk0
  refine rn F ?_
  refine VCalls.wkH ?_; simp only [QfT,Qep,QdW,QcZ,DV.wk,PV.wk,QC0]
  refine rn F ?_
  repeat' (first
    | with_reducible exact ⟨⟩
    | (refine sB F ?_ ?_<;>intro hZ)
    | (refine Qj (c2) rfl ?_; rintro b hb; refine rn F ?_))
  all_goals first | exact err 15 (by decide) | skip
  have hlo:=h1.1
  refine Qg (fun s:AdS x a.lo.length=>⟨72,0,[(11,.int .i64 s.i),(10,.ptr 4 0),(6,.ptr 2 0),(4,.ptr 1 0)],[⟨25,true,x.c⟩,⟨267,true,a.d⟩,⟨41,true,Kn.d Kn0⟩,⟨31,true,p.d⟩,⟨41,true,s.k.d⟩]⟩) (fun s=>a.lo.length - s.i) ⟨0,_,Nat.zero_le _,hk0,Ev.refl _⟩ (gc [0,1,2,3,4]) ?_
  rintro ⟨i,k,hi,hk,he⟩
  dsimp only
  by_cases hil:i < a.lo.length
  rotate_left
  · skip
    refine rn F ?_
    exact ⟨rfl,rfl,(k,0),rfl,hk,fun _=>he⟩
  have hg:=QdN a.lo i hil
  generalize a.lo.getD i Tx0 = t at *
  have c3:=QdH k hk ⟨0,4,t.id,0,0,0,Ch0,[]⟩
  have F:=@hg
  refine rn F ?_
  repeat' (first
    | with_reducible exact ⟨⟩
    | (refine sB F ?_ ?_<;>intro hZ)
    | (refine Qj (c3) rfl ?_; rintro ⟨k1,n1,e1⟩ hq; refine rn F ?_)
    | (refine Qb (id:=11) [0,1,2,3,4,5,6,7] [⟨[],[],8,[1,2,3,4,5,6],[9,10,11,12]⟩,⟨[],[],13,[11,12],[]⟩,⟨[],[],14,[],[]⟩] (by kernel_rfl) (by kernel_rfl) ?_; refine rn F ?_))
  all_goals first
    | exact err _ (by assumption)
    | exact ⟨⟨i + 1,k,hil,hk,he⟩,by dsimp only; omega,(gc [0,1,2,3,4])⟩
    | exact ⟨⟨i + 1,k1,hil,hq.1,he.trans (QdT hq (by assumption)).1⟩,by dsimp only; omega,(gc [0,1,2,3,4])⟩
    | skip
theorem Qyv (s:List UInt8) (hs:s.length<=100000000):VCalls prog 174 [.pv (.str s)] [] (Ret (lgD (QbH s))):=by
  refine VCalls.unwk ?_
  refine dd Tryz.func174 ?_
  have c0:=QhW s hs 0
  have hu:=QwB s 0
  generalize hR:QbH s = R
  unfold QCK at c0
  generalize hU:unf s 0 = u at *
  obtain ⟨u,a0,e0⟩:=u
  dsimp only at hu c0
  (unfold Tryz.f174; refine rn trivial ?_)
  by_cases he:e0 = 0
  rotate_left
  · skip
    have F:=@he
    refine rn F ?_
    repeat' (first
      | with_reducible exact ⟨⟩
      | refine vp F (c0) ?_)
    all_goals
      rw [<- hR]
      unfold QbH
      rw [if_neg (fun h=>by have h1:=h.1; rw [hU] at h1; exact he h1)]
      rfl
  subst he
  by_cases hl:u.length = 12
  rotate_left
  · have hl2:¬ (u.length:Int) = 12:=by omega
    have F:=@hl2
    refine rn F ?_
    repeat' (first
      | with_reducible exact ⟨⟩
      | refine vp F (c0) ?_)
    all_goals first
      | (rw [<- hR]; unfold QbH; rw [if_neg (fun h=>by have h1:=h.2.1; rw [hU] at h1; exact hl h1)]; rfl)
      | (exfalso; omega)
  have h4:4<=u.length:=by omega
  have c3:=QhY u (by omega) 4 8 (by omega) (by omega)
  have hN:IntKind.i64.wrap (Qlf u 4 8) = Ql6 u 4 8:=rfl
  rw [hN] at c3
  generalize hn:Ql6 u 4 8 = f at *
  have hl3:(u.length:Int) = 12:=by omega
  by_cases hp:u.take 4 = [80,77,76,71]
  rotate_left
  · skip
    have F:=(And.intro @h4 (And.intro @hl3 @hp))
    refine rn F ?_
    repeat' (first
      | with_reducible exact ⟨⟩
      | (refine sG F ?_ ?_<;>intro hZ)
      | (refine sB F ?_ ?_<;>intro hZ)
      | refine vp F (c0) ?_
      | refine vp F (c3) ?_)
    all_goals first
      | (rw [<- hR]; unfold QbH; rw [if_neg (fun h=>by have h1:=h.2.2.1; rw [hU] at h1; exact hp h1)]; rfl)
      | (exfalso; omega)
      | skip
    all_goals (exfalso; simp_all)
  by_cases hf:1<=f/\f<=1099511627776
  rotate_left
  · skip
    have F:=(And.intro @h4 (And.intro @hl3 @hp))
    refine rn F ?_
    repeat' (first
      | with_reducible exact ⟨⟩
      | (refine sG F ?_ ?_<;>intro hZ)
      | refine vp F (c0) ?_
      | refine vp F (c3) ?_)
    all_goals first
      | (rw [<- hR]; unfold QbH; rw [if_neg (fun h=>by have h1:=h.2.2.2; rw [hU,hn] at h1; exact hf h1)]; rfl)
      | (exfalso; omega)
  have F:=(And.intro @h4 (And.intro @hl3 @hp))
  refine rn F ?_
  repeat' (first
    | with_reducible exact ⟨⟩
    | refine vp F (c0) ?_
    | refine vp F (c3) ?_)
  all_goals first | (exfalso; omega) | skip
  refine VLoop.nilOwnC 1 1 60 13 rfl rfl ?_
  refine rn trivial ?_
  refine Qg (fun o:{o:Op s f a0 × Int // o.2 = f + o.1.l.length - 1}=>⟨90,0,[(9,.ptr 1 0),(5,.int .i64 o.1.1.a),(2,.ptr 0 0),(0,.pv (.str s))],[⟨25,true,[.int .i64 0,.pv (.slc []),.int .i64 0]⟩,⟨25,true,[.int .i64 f,.own 2 13 0 o.1.1.l.length,.int .i64 o.1.2]⟩,⟨60,true,cells encE o.1.1.l⟩]⟩) (fun o=>4096 - o.1.1.l.length) ⟨(Op.start s f a0,f - 1),by simp [Op.start]⟩ (gc [0,1,2]) ?_
  rintro ⟨⟨o,d⟩,hd⟩
  dsimp only at hd |-
  have hol:=o.hl
  have hst:=o.stop
  have c4:=QhW s hs o.a
  unfold QCK at c4
  have hu2:=QwB s o.a
  have hso:Qgg s o.a (f + o.l.length) = if (unf s o.a).2.2 = 0/\(Qps (unf s o.a).1).2 = 0/\(Qps (unf s o.a).1).1.lsn = f + o.l.length then some ((Qps (unf s o.a).1).1,(unf s o.a).2.1) else none:=rfl
  generalize unf s o.a = v at *
  obtain ⟨v,b,e⟩:=v
  dsimp only at hu2 hso c4
  have c5:=QoB v (by omega)
  generalize Qps v = D at *
  have hb:(o.l.length + 1) * 128<=140737488355328:=by omega
  have fin:(o.l.length < 4096->Qgg s o.a (f + o.l.length) = none)->DV.tup [.agg [.int .i64 f,.pv (.sl (fz encE o.l)),.int .i64 d],.int .i64 0] = lgD R:=fun h=>by
    have h1:hdO s:=by unfold hdO; rw [hU,hn]; exact ⟨rfl,hl,hp,hf⟩
    have h2:QAx s = o.l:=by unfold QAx; rw [hU,hn]; exact hst h
    rw [<- hR,hd]
    unfold QbH
    rw [if_pos h1,h2,hU,hn]
    rfl
  have F:=@hb
  refine rn F ?_
  repeat' (first
    | with_reducible exact ⟨⟩
    | (refine sG F ?_ ?_<;>intro hZ)
    | (refine sB F ?_ ?_<;>intro hZ)
    | refine vp F (c4) ?_
    | refine vp F (c5) ?_)
  · exact fin fun _=>by rw [hso,if_neg fun h=>by have h1:=h.1; omega]
  · exact fin fun _=>by rw [hso,if_neg fun h=>by have h1:=h.2.1; have h2:=h.2.2; omega]
  · have hl1:(o.l ++ [D.1]).length = o.l.length + 1:=by simp
    refine ⟨⟨(o.next (by omega) (x:=D.1) (b:=b) (by rw [hso,if_pos ⟨by omega,by omega,by omega⟩]),D.1.lsn),?_⟩,?_,?_⟩
    · dsimp only [Op.next]; rw [hl1]; omega
    · dsimp only [Op.next]; rw [hl1]; omega
    · dsimp only [Op.next]
      rw [hl1]
      exact (gc [0,1,5])
  · exact fin fun _=>by rw [hso,if_neg fun h=>by have h1:=h.2.1; omega]
  · exact fin fun h=>by omega
theorem QkC {s t:List UInt8} {a b:Nat}:∀ {k:Nat},(∀ i,i < k->s.getD (a + i) 0 = t.getD (b + i) 0)->leN s a k = leN t b k
  | 0,_=>rfl
  | k + 1,h=>by rw [leN,leN,QkC (fun i hi=>h i (by omega)),h k (by omega)]
theorem Qr0 (s t:List UInt8) (n:Int) (k:Nat) (hk:k<=8):leN (Qan s n k ++ t) s.length k = u64N n % 2 ^ (8 * k):=by
  have h:=Qmy s t n k hk k (Nat.le_refl _)
  rw [Qez _ _ _ hk] at h
  omega
def frq (q:List UInt8):List UInt8:=Qan [] q.length 4 ++ q
theorem Qmh (q:List UInt8):(frq q).length = q.length + 4:=by rw [frq,List.length_append,Qo]; simp; omega
theorem Qsw {q:List UInt8} (h:q.length<=8392):frm q = Qan (frq q) (QlD (frq q)) 4:=by rw [frm,if_pos h]; rfl
theorem QgQ {q:List UInt8} (h:q.length<=8392):(frm q).length = q.length + 8:=by rw [Qsw h,Qo,Qmh]
theorem Qrx (p q:List UInt8) (n:Int) (k:Nat):p ++ Qan q n k = Qan (p ++ q) n k:=by simp [Qan]
theorem Qsv {q:List UInt8} (h:q.length<=8392) (p r:List UInt8):p ++ (frm q ++ r) = Qan (p ++ frq q) (QlD (frq q)) 4 ++ r:=by
  rw [Qsw h,<- Qrx,List.append_assoc]
theorem QBL {q:List UInt8} (h:q.length<=8392) (p r:List UInt8):n4 (p ++ (frm q ++ r)) p.length = q.length:=by
  have:=Qr0 p (q ++ ((List.range 4).map (Qk2 (QlD (frq q))) ++ r)) q.length 4 (by omega)
  have e:p ++ (frm q ++ r) = Qan p q.length 4 ++ (q ++ ((List.range 4).map (Qk2 (QlD (frq q))) ++ r)):=by
    rw [Qsw h]
    generalize QlD (frq q) = z
    simp only [frq,Qan,List.nil_append,List.append_assoc]
  rw [n4,e,this]
  unfold u64N; omega
theorem QBK {q:List UInt8} (h:q.length<=8392) (p r:List UInt8):(n4 (p ++ (frm q ++ r)) (p.length + 4 + q.length):Int) = QlD (frq q):=by
  have:=Qr0 (p ++ frq q) r (QlD (frq q)) 4 (by omega)
  have hx:=QlC (frq q)
  have hl:(p ++ frq q).length = p.length + 4 + q.length:=by rw [List.length_append,Qmh]; omega
  rw [Qsv h,n4,<- hl,this]
  unfold u64N; omega
theorem QBZ {q:List UInt8} (h:q.length<=8392) (p r:List UInt8):((p ++ (frm q ++ r)).take (p.length + 4 + q.length)).drop p.length = frq q:=by
  have hl:(p ++ frq q).length = p.length + 4 + q.length:=by rw [List.length_append,Qmh]; omega
  rw [Qsv h,Qan,List.append_assoc,List.take_left' hl,List.drop_left]
theorem QwC {q:List UInt8} (h:q.length<=8392) (p r:List UInt8):unf (p ++ (frm q ++ r)) p.length = (q,((p.length + (q.length + 8):Nat):Int),0):=by
  have h1:=QBL h p r
  have h2:=QBK h p r
  have h3:=QBZ h p r
  have hl:=QgQ h
  have hs:(p ++ (frm q ++ r)).length = p.length + (q.length + 8) + r.length:=by rw [List.length_append,List.length_append,hl]; omega
  unfold unf
  rw [Int.toNat_natCast,if_neg (by omega),if_neg (by omega),h1,if_neg (by omega),if_neg (by omega),h2,h3,if_neg (by simp)]
  have e:((p ++ (frm q ++ r)).take (p.length + 4 + q.length)).drop (p.length + 4) = q:=by
    rw [<- List.drop_drop,h3,frq,List.drop_left' (by rw [Qo]; rfl)]
  rw [e]
  congr 2
  omega
theorem QxW {q:List UInt8} (h:q.length<=8392) (p:List UInt8) (k:Nat) (hk:k < q.length + 8):(unf (p ++ (frm q).take k) p.length).2.2 = 5:=by
  have hl:=QgQ h
  have hs:(p ++ (frm q).take k).length = p.length + k:=by rw [List.length_append,List.length_take]; omega
  unfold unf
  rw [Int.toNat_natCast,if_neg (by omega)]
  by_cases h4:k < 4
  · rw [if_pos (by omega)]
  have h1:=QBL h p []
  have h0:n4 (p ++ (frm q).take k) p.length = q.length:=by
    rw [<- h1]
    refine QkC fun i hi=>?_
    rw [List.getD_eq_getElem?_getD,List.getD_eq_getElem?_getD,List.getElem?_append_right (by omega),List.getElem?_append_right (by omega),List.getElem?_take,if_pos (by omega),List.append_nil]
  rw [if_neg (by omega),h0,if_neg (by omega),if_pos (by omega)]
theorem QxV (p:List UInt8):(unf p p.length).2.2 = 5:=by
  unfold unf
  rw [Int.toNat_natCast,if_neg (by omega),if_pos (by omega)]
theorem QrN (s p:List UInt8) (n:Int) (k:Nat) (hk:k<=8) (hp:Qan p n k <+: s) (h:0<=n/\n < 2 ^ (8 * k)/\n<=9223372036854775807):Ql6 s p.length k = n:=by
  obtain ⟨t,rfl⟩:=hp
  unfold Ql6
  rw [Qmy p t n k hk k (Nat.le_refl _)]
  have e:u64N n % 2 ^ (8 * k) = n.toNat:=by
    have h1:u64N n = n.toNat:=by unfold u64N; omega
    have h2:((2:Int) ^ (8 * k)) = ((2 ^ (8 * k):Nat):Int):=by rw [Int.natCast_pow]; rfl
    rw [h1]
    exact Nat.mod_eq_of_lt (by omega)
  rw [e,IntKind.wrap_i64]
  omega
def At {t:List UInt8} (r:RS t) (p:List UInt8):Prop:=(r.e = 5/\t.length < p.length)\/(r.e = 0/\r.at_ = p.length)
theorem Qa4 (p:List UInt8) (n:Int) (k:Nat):p <+: Qan p n k:=List.prefix_append _ _
theorem QwN {t s p:List UInt8} (ht:t <+: s) (hp:p <+: s) (hl:p.length<=t.length):p <+: t:=List.prefix_of_prefix_length_le hp ht hl
theorem QcH {t s p:List UInt8} (ht:t <+: s) (n:Int) (k:Nat) (hk:k<=8) (hp:Qan p n k <+: s) (h:0<=n/\n < 2 ^ (8 * k)/\n<=9223372036854775807) {r:RS t} (ha:At r p) :
    At (Qco t r k).2 (Qan p n k)/\((Qco t r k).2.e = 0->(Qco t r k).1 = n):=by
  have hl:=Qo p n k
  unfold Qco
  rcases ha with ⟨h1,h2⟩ | ⟨h1,h2⟩
  · rw [if_neg (by omega)]
    refine ⟨.inl ⟨h1,by omega⟩,fun h=>absurd (h1.symm.trans h) (by decide)⟩
  · rw [if_pos h1]
    split
    · rename_i hb
      refine ⟨.inr ⟨rfl,by dsimp only; omega⟩,fun _=>?_⟩
      have e:r.at_.toNat = p.length:=by omega
      dsimp only
      rw [e]
      exact QrN t p n k hk (QwN ht hp (by omega)) h
    · refine ⟨.inl ⟨rfl,by omega⟩,fun h=>absurd (show (5:Int) = 0 from h) (by decide)⟩
theorem Qqk {t s p d:List UInt8} (ht:t <+: s) (hp:p ++ d <+: s) {n:Int} {r:RS t} (ha:At r p) (hn:r.e = 0->n = d.length) :
    At (QeM t r n).2 (p ++ d)/\((QeM t r n).2.e = 0->(QeM t r n).1 = d):=by
  have hl:(p ++ d).length = p.length + d.length:=List.length_append
  unfold QeM
  rcases ha with ⟨h1,h2⟩ | ⟨h1,h2⟩
  · rw [if_neg (by omega)]
    refine ⟨.inl ⟨h1,by omega⟩,fun h=>absurd (h1.symm.trans h) (by decide)⟩
  · rw [if_pos h1]
    have hn:=hn h1
    split
    · rename_i hb
      refine ⟨.inr ⟨rfl,by dsimp only; omega⟩,fun _=>?_⟩
      have e:r.at_.toNat = p.length:=by omega
      have e2:(r.at_ + n).toNat = (p ++ d).length:=by omega
      dsimp only
      rw [e,e2]
      have:=QwN ht hp (by omega)
      rw [<- List.prefix_iff_eq_take.1 this,List.drop_left]
    · refine ⟨.inl ⟨rfl,by omega⟩,fun h=>absurd (show (5:Int) = 0 from h) (by decide)⟩
theorem Qtb {t s p:List UInt8} (ht:t <+: s) (c:Ce) (hc:c.okB = true) (hp:Qaf p c <+: s) {r:RS t} (ha:At r p) :
    At (Qe0 t r).2 (Qaf p c)/\((Qe0 t r).2.e = 0->(Qe0 t r).1 = c):=by
  obtain ⟨set,data⟩:=c
  simp only [Ce.okB,Bool.and_eq_true,decide_eq_true_eq,Bool.or_eq_true,beq_iff_eq] at hc
  unfold Qe0 Qo8
  unfold Qaf at hp |-
  cases set
  · simp only [Bool.false_eq_true,if_false] at hp |-
    obtain ⟨h1,h2⟩:=QcH (r:=r) ht 255 1 (by omega) hp ⟨by omega,by omega,by omega⟩ ha
    have hd:data = []:=by rcases hc.2 with h | h; cases h; exact h
    subst hd
    split
    · rename_i h
      exact absurd (h2 h.1) h.2
    · exact ⟨h1,fun _=>rfl⟩
  · simp only [if_true] at hp |-
    obtain ⟨h1,h2⟩:=QcH (r:=r) ht data.length 1 (by omega) ((List.prefix_append _ _).trans hp) ⟨by omega,by omega,by omega⟩ ha
    split
    · rename_i h
      have h3:=h2 h.1
      rw [if_neg (by omega)]
      obtain ⟨h4,h5⟩:=Qqk ht hp h1 (n:=(Qco t r 1).1) (fun _=>h3)
      exact ⟨h4,fun h=>by rw [h5 h]⟩
    · rename_i h
      have h3:(Qco t r 1).2.e ≠ 0:=fun e=>h ⟨e,by rw [h2 e]; omega⟩
      rcases h1 with ⟨h4,h5⟩ | ⟨h4,h5⟩
      · refine ⟨.inl ⟨h4,?_⟩,fun e=>absurd e h3⟩
        rw [List.length_append]; omega
      · exact absurd h4 h3
theorem Qhx {t:List UInt8} {r:RS t} {k:Nat} (h:(Qco t r k).2.e = 0):r.e = 0:=by
  unfold Qco at h
  split at h
  · assumption
  · exact h
theorem QA1 {t:List UInt8} {r:RS t} {n:Int} (h:(QeM t r n).2.e = 0):r.e = 0:=by
  unfold QeM at h
  split at h
  · assumption
  · exact h
theorem Qxb {t:List UInt8} {r:RS t} (h:(Qe0 t r).2.e = 0):r.e = 0:=by
  unfold Qe0 Qo8 at h
  split at h
  · rename_i hc
    exact Qhx hc.1
  · exact Qhx h
theorem QDh (e:E) (h:e.okB = true):(0<=e.lsn/\e.lsn<=1099511627776)/\(0<=e.kind/\e.kind < 256)/\(0<=e.tx/\e.tx < 4294967296)/\(0<=e.ptx/\e.ptx<=1099511627776)/\(0<=e.ppg/\e.ppg<=1099511627776)/\(0<=e.ref/\e.ref<=1099511627776)/\(0<=e.c.pg/\e.c.pg < 64)/\(0<=e.c.sl/\e.c.sl < 16)/\e.c.b.okB = true/\e.c.a.okB = true:=by
  obtain ⟨lsn,kind,tx,ptx,ppg,ref,⟨pg,sl,⟨b1,b2⟩,⟨a1,a2⟩⟩,blob⟩:=e
  simp only [E.okB,Bool.and_eq_true,bef,decide_eq_true_eq] at h
  obtain ⟨h0,h⟩:=h
  unfold E.kindB at h
  dsimp only at h0 h |-
  split at h
  · simp [Ch.okB,Ce.okB,txB] at h |-; grind
  split at h
  · simp [Ch.okB,Ce.okB,txB] at h |-; grind
  split at h
  · simp [Ch.no,Ce.no,Ce.okB,txB] at h |-; grind
  split at h
  · simp [Ch.no,Ce.no,Ce.okB] at h |-; grind
  split at h
  · simp [Ch.ix,Ce.no,Ce.okB] at h |-; grind
  · simp at h
theorem Qie (p:List UInt8) (c:Ce):p <+: Qaf p c:=by
  unfold Qaf
  split
  · exact (Qa4 _ _ _).trans (List.prefix_append _ _)
  · exact Qa4 _ _ _
theorem QB8 (x:E) (h:x.okB = true) {t s:List UInt8} (ht:t <+: s) (hx:QkV x <+: s):At (QsP t).2 (QkV x)/\((QsP t).2.e = 0->(QsP t).1 = x):=by
  obtain ⟨i1,i2,i3,i4,i5,i6,i7,i8,i9,i10⟩:=QDh x h
  obtain ⟨l1,l2,l3⟩:=Qek h
  have a0:At (rs0 t) []:=.inr ⟨rfl,rfl⟩
  have P10:Qan (Qaf (Qaf (QaM x) x.c.b) x.c.a) x.blob.length 4 <+: s:=(List.prefix_append _ _).trans hx
  have P9:Qaf (Qaf (QaM x) x.c.b) x.c.a <+: s:=(Qa4 _ _ _).trans P10
  have P8:Qaf (QaM x) x.c.b <+: s:=(Qie _ _).trans P9
  have PH:QaM x <+: s:=(Qie _ _).trans P8
  unfold QaM at PH P8 P9 P10
  have P7:=(Qa4 _ _ _).trans PH
  have P6:=(Qa4 _ _ _).trans P7
  have P5:=(Qa4 _ _ _).trans P6
  have P4:=(Qa4 _ _ _).trans P5
  have P3:=(Qa4 _ _ _).trans P4
  have P2:=(Qa4 _ _ _).trans P3
  have P1:=(Qa4 _ _ _).trans P2
  obtain ⟨b1,c1⟩:=QcH (r:=rs0 t) ht x.lsn 8 (by omega) P1 ⟨by omega,by omega,by omega⟩ a0
  obtain ⟨b2,c2⟩:=QcH ht x.kind 1 (by omega) P2 ⟨by omega,by omega,by omega⟩ b1
  obtain ⟨b3,c3⟩:=QcH ht x.tx 4 (by omega) P3 ⟨by omega,by omega,by omega⟩ b2
  obtain ⟨b4,c4⟩:=QcH ht x.ptx 8 (by omega) P4 ⟨by omega,by omega,by omega⟩ b3
  obtain ⟨b5,c5⟩:=QcH ht x.ppg 8 (by omega) P5 ⟨by omega,by omega,by omega⟩ b4
  obtain ⟨b6,c6⟩:=QcH ht x.ref 8 (by omega) P6 ⟨by omega,by omega,by omega⟩ b5
  obtain ⟨b7,c7⟩:=QcH ht x.c.pg 4 (by omega) P7 ⟨by omega,by omega,by omega⟩ b6
  obtain ⟨b8,c8⟩:=QcH ht x.c.sl 1 (by omega) PH ⟨by omega,by omega,by omega⟩ b7
  obtain ⟨b9,c9⟩:=Qtb ht x.c.b i9 P8 b8
  obtain ⟨b10,c10⟩:=Qtb ht x.c.a i10 P9 b9
  obtain ⟨b11,c11⟩:=QcH ht x.blob.length 4 (by omega) P10 ⟨by omega,by omega,by omega⟩ b10
  obtain ⟨b12,c12⟩:=Qqk ht hx b11 c11
  unfold QsP
  dsimp only
  refine ⟨b12,fun e12=>?_⟩
  have e11:=QA1 e12
  have e10:=Qhx e11
  have e9:=Qxb e10
  have e8:=Qxb e9
  have e7:=Qhx e8
  have e6:=Qhx e7
  have e5:=Qhx e6
  have e4:=Qhx e5
  have e3:=Qhx e4
  have e2:=Qhx e3
  have e1:=Qhx e2
  rw [c1 e1,c2 e2,c3 e3,c4 e4,c5 e5,c6 e6,c7 e7,c8 e8,c9 e9,c10 e10,c12 e12]
theorem QB7 (x:E) (h:x.okB = true):Qps (QkV x) = (x,0):=by
  obtain ⟨h1,h2⟩:=QB8 x h (List.prefix_refl _) (List.prefix_refl _)
  unfold Qps
  rcases h1 with ⟨h3,h4⟩ | ⟨h3,h4⟩
  · omega
  · rw [if_pos h3,if_pos h4,h2 h3,if_pos h]
theorem Qes {e:E} (h:e.okB = true):(QkV e).length<=8392:=by
  obtain ⟨l1,l2,l3⟩:=Qek h
  have n1:=Qbp (QaM e) e.c.b
  have n2:=Qbp (Qaf (QaM e) e.c.b) e.c.a
  rw [Qdi] at n1
  unfold QkV
  rw [List.length_append,Qo]
  omega
theorem Qw5 {e:E} (h:e.okB = true):frE e = frm (QkV e):=by unfold frE QhE; rw [if_pos h]
theorem Qug {e:E} (h:e.okB = true) (p r:List UInt8):Qgg (p ++ (frE e ++ r)) p.length e.lsn = some (e,((p.length + (frE e).length:Nat):Int)):=by
  have h1:=QwC (Qes h) p r
  have h2:=QB7 e h
  have hl:=QgQ (Qes h)
  rw [Qw5 h]
  unfold Qgg
  rw [h1]
  dsimp only
  rw [h2,if_pos ⟨rfl,rfl,rfl⟩,hl]
def Qpo (l:Int) (es:List E):Prop:=∀ i:Nat,i < es.length->(es.getD i E0).lsn = l + i/\(es.getD i E0).okB = true
theorem Qj2 {l:Int} {e:E} {r:List E} (h:Qpo l (e :: r)):e.lsn = l/\e.okB = true/\Qpo (l + 1) r:=by
  have h0:=h 0 (by simp)
  refine ⟨by simpa using h0.1,by simpa using h0.2,fun i hi=>?_⟩
  have:=h (i + 1) (by simpa using hi)
  simp only [List.getD_cons_succ] at this
  exact ⟨by omega,this.2⟩
theorem Qh2 (r:List UInt8):∀ (es:List E) (p:List UInt8) (l:Int) (n:Nat),Qpo l es->es.length<=n ->
    opn (p ++ (es.flatMap frE ++ r)) n p.length l = es ++ opn (p ++ (es.flatMap frE ++ r)) (n - es.length) ((p.length + (es.flatMap frE).length:Nat):Int) (l + es.length)
  | [],p,l,n,_,_=>by simp
  | e :: t,p,l,n,h,hn=>by
    obtain ⟨h1,h2,h3⟩:=Qj2 h
    rw [List.length_cons] at hn
    obtain ⟨m,rfl⟩:∃ m,n = m + 1:=⟨n - 1,by omega⟩
    have hs:p ++ ((e :: t).flatMap frE ++ r) = p ++ (frE e ++ (t.flatMap frE ++ r)):=by rw [List.flatMap_cons]; simp only [List.append_assoc]
    have hs2:p ++ ((e :: t).flatMap frE ++ r) = (p ++ frE e) ++ (t.flatMap frE ++ r):=by rw [List.flatMap_cons]; simp only [List.append_assoc]
    have h4:=Qug h2 p (t.flatMap frE ++ r)
    rw [<- hs,h1] at h4
    have ih:=Qh2 r t (p ++ frE e) (l + 1) m h3 (by omega)
    rw [<- hs2] at ih
    have e1:opn (p ++ ((e :: t).flatMap frE ++ r)) (m + 1) p.length l = e :: opn (p ++ ((e :: t).flatMap frE ++ r)) m ((p.length + (frE e).length:Nat):Int) (l + 1):=by
      conv=>lhs; unfold opn
      rw [h4]
    rw [e1,<- List.length_append,ih,List.length_cons,List.flatMap_cons,List.length_append,List.length_append]
    rw [show m + 1 - (t.length + 1) = m - t.length by omega,List.cons_append]
    congr 3
    · omega
    · omega
theorem QkI {f:Int} (r:List UInt8):unf (QcO f ++ r) 0 = (Qan [80,77,76,71] f 8,20,0):=by
  have:=QwC (q:=Qan [80,77,76,71] f 8) (by rw [Qo]; simp) [] r
  rw [List.nil_append] at this
  unfold QcO
  rw [show (([]:List UInt8).length:Int) = 0 from rfl] at this
  rw [this,Qo]
  rfl
theorem QeU (f:Int):(QcO f).length = 20:=by
  unfold QcO
  rw [QgQ (by rw [Qo]; simp),Qo]; rfl
theorem QvK {f:Int} (h:1<=f/\f<=1099511627776) (r:List UInt8):hdO (QcO f ++ r)/\Ql6 (unf (QcO f ++ r) 0).1 4 8 = f:=by
  have h1:=QkI (f:=f) r
  have h2:Ql6 (Qan [80,77,76,71] f 8) 4 8 = f:=QrN _ [80,77,76,71] f 8 (by omega) (List.prefix_refl _) ⟨by omega,by omega,by omega⟩
  unfold hdO
  rw [h1]
  dsimp only
  refine ⟨⟨rfl,by rw [Qo]; rfl,?_,by omega,by omega⟩,h2⟩
  simp [Qan]
theorem Qkj {f:Int} (h:1<=f/\f<=1099511627776) {es:List E} (he:Qpo f es) (hl:es.length<=4096) (r:List UInt8)
    (hr:es.length < 4096->Qgg (QcO f ++ (es.flatMap frE ++ r)) ((20 + (es.flatMap frE).length:Nat):Int) (f + es.length) = none):QbH (QcO f ++ (es.flatMap frE ++ r)) = (⟨f,es,f + es.length - 1⟩,0):=by
  obtain ⟨h1,h2⟩:=QvK h (es.flatMap frE ++ r)
  have h3:=QkI (f:=f) (es.flatMap frE ++ r)
  have h4:=Qh2 r es (QcO f) f 4096 he hl
  rw [QeU] at h4
  have h5:QAx (QcO f ++ (es.flatMap frE ++ r)) = es:=by
    unfold QAx
    rw [h2,h3]
    dsimp only
    refine h4.trans ?_
    by_cases hc:es.length < 4096
    · rw [Qne _ (hr hc),List.append_nil]
    · rw [show 4096 - es.length = 0 by omega]; exact List.append_nil _
  unfold QbH
  rw [if_pos h1,h2,h5]
theorem Qi6 {x:Lg} (h:lgB x = true):Qpo x.f x.es:=by
  unfold lgB at h
  simp only [Bool.and_eq_true,List.all_eq_true,List.mem_range] at h
  intro i hi
  have:=h.2 i hi
  simpa [lgC] using this
theorem QwV {x:Lg} (h:x.hd) (hs:Qpo x.f x.es):lgB x = true:=by
  unfold lgB
  rw [decide_eq_true h,Bool.true_and,List.all_eq_true]
  intro i hi
  have:=hs i (List.mem_range.1 hi)
  simpa [lgC] using this
theorem Qso {α:Type} (l:List α) (n i:Nat) (h:i < n) (d:α):(l.take n).getD i d = l.getD i d:=by
  rw [List.getD_eq_getElem?_getD,List.getD_eq_getElem?_getD,List.getElem?_take,if_pos h]
theorem Qj1 {l:Int} {es:List E} (h:Qpo l es) (n:Nat):Qpo l (es.take n):=fun i hi=>by
  rw [List.length_take] at hi
  rw [Qso _ _ _ (by omega)]
  exact h i (by omega)
theorem QgS:∀ (es:List E) (t:Nat),∃ j m,j<=es.length/\(es.flatMap frE).take t = (es.take j).flatMap frE ++ (frE (es.getD j E0)).take m/\(j < es.length->m < (frE (es.getD j E0)).length)/\(j = es.length->m = 0)
  | [],t=>⟨0,0,Nat.le_refl _,by simp,fun h=>absurd h (by simp),fun _=>rfl⟩
  | e :: r,t=>by
    by_cases h:t < (frE e).length
    · refine ⟨0,t,Nat.zero_le _,?_,fun _=>by simpa using h,fun h=>absurd h (by simp)⟩
      rw [List.flatMap_cons,List.take_append_of_le_length (by omega)]
      simp
    · obtain ⟨j,m,h1,h2,h3,h4⟩:=QgS r (t - (frE e).length)
      refine ⟨j + 1,m,by rw [List.length_cons]; omega,?_,fun h=>?_,fun h=>?_⟩
      · rw [List.flatMap_cons,List.take_append,List.take_of_length_le (by omega),h2,List.take_succ_cons,List.flatMap_cons,List.getD_cons_succ,List.append_assoc]
      · rw [List.length_cons] at h
        rw [List.getD_cons_succ]; exact h3 (by omega)
      · rw [List.length_cons] at h
        exact h4 (by omega)
theorem Qfj {d l:Int}:∀ (es:List E),Qpo l es->l - 1<=d->d<=l + es.length - 1->(es.filter fun e=>decide (e.lsn<=d)) = es.take (d - l + 1).toNat/\(es.filter fun e=>!decide (e.lsn<=d)) = es.drop (d - l + 1).toNat
  | [],_,h1,h2=>by simp
  | e :: r,h,h1,h2=>by
    obtain ⟨a1,a2,a3⟩:=Qj2 h
    rw [List.length_cons] at h2
    by_cases hc:l<=d
    · obtain ⟨b1,b2⟩:=Qfj (d:=d) (l:=l + 1) r a3 (by omega) (by omega)
      obtain ⟨k,hk,hk2⟩:∃ k,(d - l + 1).toNat = k + 1/\(d - (l + 1) + 1).toNat = k:=⟨(d - l).toNat,by omega,by omega⟩
      rw [hk2] at b1 b2
      rw [hk,List.take_succ_cons,List.drop_succ_cons,List.filter_cons,List.filter_cons,if_pos (by simp; omega),if_neg (by simp; omega),b1,b2]
      exact ⟨rfl,rfl⟩
    · have hk:(d - l + 1).toNat = 0:=by omega
      rw [hk,List.take_zero,List.drop_zero]
      have hall:∀ x ∈ (e :: r),¬ x.lsn<=d:=fun x hx=>by
        obtain ⟨i,hi,rfl⟩:=List.getElem_of_mem hx
        have:=(h i hi).1
        rw [Qk _ _ hi] at this
        omega
      refine ⟨List.filter_eq_nil_iff.2 fun x hx=>by have:=hall x hx; simp; omega,List.filter_eq_self.2 fun x hx=>by have:=hall x hx; simp; omega⟩
theorem QoY {x:Lg} (h:lgB x = true) (torn:Int):∃ n,(x.d - x.f + 1).toNat<=n/\n<=x.es.length/\QbH (QcT x torn) = (⟨x.f,x.es.take n,x.f + n - 1⟩,0):=by
  have hh:=QB h
  simp only [Lg.hd] at hh
  have hs:=Qi6 h
  obtain ⟨f1,f2⟩:=Qfj (d:=x.d) (l:=x.f) x.es hs (by omega) (by omega)
  unfold QcT
  rw [if_pos h]
  unfold Qpr Qra
  rw [f1,f2]
  generalize hk:(x.d - x.f + 1).toNat = k
  obtain ⟨j,m,h1,h2,h3,h4⟩:=QgS (x.es.drop k) torn.toNat
  rw [List.length_drop] at h1 h3 h4
  have hget:(x.es.drop k).getD j E0 = x.es.getD (k + j) E0:=by
    rw [List.getD_eq_getElem?_getD,List.getD_eq_getElem?_getD,List.getElem?_drop]
  have htk:x.es.take k ++ (x.es.drop k).take j = x.es.take (k + j):=by rw [<- List.take_add]
  have hlen:(x.es.take (k + j)).length = k + j:=by rw [List.length_take]; omega
  refine ⟨k + j,by omega,by omega,?_⟩
  rw [h2,hget,List.append_assoc,<- List.append_assoc,<- List.append_assoc,List.append_assoc,List.append_assoc,<- List.append_assoc (List.flatMap frE _),<- List.flatMap_append,htk]
  have:=Qkj (f:=x.f) ⟨by omega,by omega⟩ (Qj1 hs (k + j)) (by rw [hlen]; omega) ((frE (x.es.getD (k + j) E0)).take m) (fun _=>Qqx (by
    by_cases hc:j < x.es.length - k
    · have h5:=h3 hc
      rw [hget] at h5
      have hok:=(hs (k + j) (by omega)).2
      rw [Qw5 hok] at h5 |-
      rw [QgQ (Qes hok)] at h5
      have:=QxW (Qes hok) (QcO x.f ++ (x.es.take (k + j)).flatMap frE) m h5
      rw [List.length_append,QeU,List.append_assoc] at this
      rw [this]; decide
    · rw [h4 (by omega),List.take_zero,List.append_nil]
      have:=QxV (QcO x.f ++ (x.es.take (k + j)).flatMap frE)
      rw [List.length_append,QeU] at this
      rw [this]; decide))
  rw [hlen] at this
  exact this
theorem QrM (s:List UInt8):(QbH s).1.es.length<=4096:=by
  unfold QbH
  split
  · exact QrL _ _ _ _
  · exact Nat.zero_le _
theorem QqV (v:Dv) (hv:v.ps.length<=64) (s:List UInt8) (hs:s.length<=100000000) (n m:Int):VCalls prog 132 [.agg v.d,.pv (.str s),.int .i64 n,.int .i64 m] [] (QC svD fun r=>r.1.sm/\(r.2 = 0->(QbH s).2 = 0/\Ev (QbH s).1 r.1.k.lg)):=by
  refine dk Tryz.func132 ?_
  have c1:=Qyv s hs
  have hl:=QrM s
  generalize QbH s = o at *
  obtain ⟨x,e0⟩:=o
  dsimp only at hl c1 |-
  have c2:=Qop x hl n
  have c3:=fun a ha=>Qu6 x hl a ha m
  have err:∀ z,z ≠ 0->QC svD (fun r=>r.1.sm/\(r.2 = 0->e0 = 0/\Ev x r.1.k.lg)) (svD (Sv0,z)) []:=fun z hz=>⟨rfl,rfl,(Sv0,z),rfl,QcY,fun h=>absurd h hz⟩
  (unfold Tryz.f132; refine rn trivial ?_)
  refine rn F ?_
  repeat' (first
    | with_reducible exact ⟨⟩
    | (refine sB F ?_ ?_<;>intro hZ)
    | refine vp F (c1) ?_
    | (refine Qj (c2) rfl ?_; rintro ⟨a,e1⟩ ha; refine rn F ?_)
    | (refine Qj (c3 a ha) rfl ?_; rintro ⟨k,e2⟩ hk; refine rn F ?_))
  all_goals first
    | exact err _ (by assumption)
    | exact ⟨rfl,rfl,(⟨k,v⟩,0),rfl,⟨hk.1,hv⟩,fun _=>⟨by assumption,hk.2 (by assumption)⟩⟩
    | skip
theorem QqU (v:Dv) (hv:v.ps.length<=64) (s:List UInt8) (hs:s.length<=100000000) (n m:Int):VCalls prog 110 [.agg v.d,.pv (.str s),.int .i64 n,.int .i64 m] [] (QC svD fun r=>r.1.sm/\(r.2 = 0->(QbH s).2 = 0/\Ev (QbH s).1 r.1.k.lg)):=by
  refine dk Tryz.func110 ?_
  have c1:=QqV v hv s hs n m
  generalize QbH s = o at *
  (unfold Tryz.f110; refine rn trivial ?_)
  refine rn F ?_
  repeat' (first
    | with_reducible exact ⟨⟩
    | (refine Qj (c1) rfl ?_; rintro ⟨k,e⟩ hk; refine rn F ?_))
  all_goals first
    | exact ⟨rfl,rfl,(k,e),rfl,hk⟩
    | skip
section
attribute [local go_sem] QaZ
@[go_sem] def crD (a:Dv × Lg × Int):DV:=.tup [.agg a.1.d,.pv (.str (QcT a.2.1 a.2.2))]
def crQ (s:Sv) (a:Dv × Lg × Int):Prop:=a.1.ps.length<=64/\a.2.1.f = s.k.lg.f/\a.2.1.es = s.k.lg.es/\(lgB s.k.lg = true->lgB a.2.1 = true)
theorem QqN (s:Sv) (hs:s.sm) (torn id cut:Int):VCalls prog 109 [.agg s.d,.int .i64 torn,.int .i64 id,.int .i64 cut] [] (QC crD (crQ s)):=by
  refine dk Tryz.func109 ?_
  have c1:=Qcb s.k.pl (Nat.le_trans hs.1.2.1 (by decide)) id
  have hl:=hs.1.1
  have c2:=Qm5 s.k.lg (by omega) torn
  have c3:=fun d=>Qm5 ⟨s.k.lg.f,s.k.lg.es,d⟩ (by dsimp only; omega) torn
  have h0:crQ s (s.v,s.k.lg,torn):=⟨hs.2,rfl,rfl,fun h=>h⟩
  (unfold Tryz.f109; refine rn trivial ?_)
  refine rn F ?_
  repeat' (first
    | with_reducible exact ⟨⟩
    | (refine Qb (id:=1) [0,1,2,3] [⟨[4,5],[4],6,[2,3],[]⟩,⟨[5],[5],7,[],[]⟩] (by kernel_rfl) (by kernel_rfl) ?_; refine rn F ?_))
  refine vp hl c1 ?_
  rcases Qcg s.k.pl id with hn | ⟨_,i,hi,hfi,_⟩
  · rw [hn]
    refine rn @hl ?_
    refine rn F ?_
    repeat' (first
      | with_reducible exact ⟨⟩
      | refine vp F (c2) ?_
      | (refine Qb (id:=9) [0,1,2,3] [⟨[],[],4,[0,1],[]⟩,⟨[],[],5,[1,2,3],[]⟩,⟨[],[],6,[],[]⟩] (by kernel_rfl) (by kernel_rfl) ?_; refine rn F ?_))
    exact ⟨rfl,rfl,(s.v,s.k.lg,torn),rfl,h0⟩
  · rw [hfi]
    have hg:=QbA s.k.pl.fs i hi
    generalize s.k.pl.fs.getD i Fm0 = f at *
    have c4:=QlL f.pg
    have c5:=Qeb s.k hs.1 f.pg.lsn
    refine rn @hg ?_
    have c6:=fun b (hb:b.length<=256)=>Qyg s.v (Nat.le_trans hs.2 (by decide)) id b (Nat.le_trans hb (by decide)) cut
    have F:=@hg
    refine rn F ?_
    repeat' (first
      | with_reducible exact ⟨⟩
      | (refine sB F ?_ ?_<;>intro hZ)
      | refine vp F (c2) ?_
      | (refine Qj (c4) rfl ?_; rintro ⟨b,e1⟩ hb; refine rn F ?_)
      | (refine Qj (c5) rfl ?_; rintro d hd; refine rn F ?_)
      | (refine Qj (c6 b hb) rfl ?_; rintro ⟨v2,e2⟩ hv; refine rn F ?_)
      | refine vp F (c3 d) ?_
      | (refine Qb (id:=5) [0,1,2,3,4,5,6,7,8] [⟨[],[],9,[1,2,3,4,5,6,7],[]⟩,⟨[],[],10,[],[]⟩] (by kernel_rfl) (by kernel_rfl) ?_; refine rn F ?_)
      | (refine Qb (id:=9) [0,1,2,3] [⟨[],[],4,[0,1],[]⟩,⟨[],[],5,[1,2,3],[]⟩,⟨[],[],6,[],[]⟩] (by kernel_rfl) (by kernel_rfl) ?_; refine rn F ?_))
    all_goals first
      | exact ⟨rfl,rfl,(s.v,s.k.lg,torn),rfl,h0⟩
      | exact ⟨rfl,rfl,(v2,⟨s.k.lg.f,s.k.lg.es,d⟩,torn),rfl,hv,rfl,rfl,hd⟩
      | exact ⟨rfl,rfl,(s.v,⟨s.k.lg.f,s.k.lg.es,d⟩,torn),rfl,hs.2,rfl,rfl,hd⟩
      | skip
end
section
attribute [local go_sem] QaZ
theorem QsY {x y:Lg} {t:Int} (hx:LgI x) (hf:y.f = x.f) (hv:lgB y = true) {z:Lg} (he:Ev (QbH (QcT y t)).1 z):LgI z:=by
  obtain ⟨n,h1,h2,h3⟩:=QoY hv t
  rw [h3] at he
  have hd:=QB hv
  simp only [Lg.hd] at hd
  have hl:(y.es.take n).length = n:=by rw [List.length_take]; omega
  refine ⟨he.ok (QwV (x:=⟨y.f,y.es.take n,y.f + n - 1⟩) ⟨hd.1,hd.2.1,by dsimp only; omega,by dsimp only; omega,by dsimp only; omega⟩ (show Qpo y.f (y.es.take n) from Qj1 (Qi6 hv) n)),he.f.trans (hf.trans hx.2)⟩
theorem QsZ {x:Lg} (hx:x.es.length<=4096) (t:Int):(QcT x t).length<=100000000:=by
  have h9:=QkJ x.f
  have h8:=Qnv x.es x.d
  have h7:=Qm4 x.es x.d
  unfold QcT
  split
  · rw [List.length_append,List.length_append,List.length_take]
    omega
  · exact Nat.zero_le _
structure Tz (n:Nat) where
  i:Nat
  l:List Int
  hi:i<=n
  hl:l.length = n
def crI (c:Sc) (n m:Nat) (c':Sc) (_:Rs):Prop:=m = 0/\c'.sm n/\(LgI c.s.k.lg->LgI c'.s.k.lg)
theorem Qrk (c:Sc) (n:Nat) (hn:n<=2000) (hc:c.sm n) (t:Sp):VCalls prog 95 [.ptr 0 0,.agg t.d] [scB c 1 2,scT c.tx,scR c.rd] (ScEnd rsD (crI c n)):=by
  refine QM (fn:=Tryz.f95) Tryz.func95 rfl (by kernel_rfl) (by simp [Tryz.f95]) ?_
  have c1:=QqN c.s hc.1 t.torn t.pg t.cut
  (unfold Tryz.f95; refine rn trivial ?_)
  refine rn F ?_
  repeat' (first
    | with_reducible exact ⟨⟩
    | (refine Qj (c1) rfl ?_; rintro ⟨v,y,tn⟩ hq; refine rn F ?_)
    | (refine QbE (id:=1) [[],[0],[0,1],[0,1,2],[],[4],[],[6],[],[8],[0,1,2,3,4,5,6,7,8,9],[0,1,2,3,4,5,6,7,8,9,10],[0,1,2,3,4,5,6,7,8,9,10,11],[0,1,2,3,4,5,6,7,8,9,10,11],[],[0,1,2,3,4,5,6,7,8,9,10,11,12,14],[0,1,2,3,4,5,6,7,8,9,10,11,12,13,14,15]] [0,1,2,3,4,5,6,7,8,9] [⟨[14],[],10,[],[11,12,13]⟩,⟨[14],[14],15,[13],[]⟩,⟨[],[],16,[],[]⟩] (by kernel_rfl) (by kernel_rfl) (by kernel_rfl) ?_; refine rn F ?_)
    | (refine QbE (id:=2) [[],[],[],[2],[2,3],[2,3,4],[2,3,4,5],[2,3,4,5,6],[],[8],[8,9],[8,9,10],[8,9,10,11],[8,9,10,11,12],[8,9,10,11,12,13],[0,1,2,3,4,5,6,7,8,9,10,11,12,13,14],[0,1,2,3,4,5,6,7,8,9,10,11,12,13,14,15],[0,1,2,3,4,5,6,7,8,9,10,11,12,13,14,15,16],[0,1,2,3,4,5,6,7,8,9,10,11,12,13,14,15,16],[],[0,1,2,3,4,5,6,7,8,9,10,11,12,13,14,15,16,17,19],[0,1,2,3,4,5,6,7,8,9,10,11,12,13,14,15,16,17,18,19,20]] [0,1,2,3,4,5,6,7,8,9,10,11,12,13,14] [⟨[19],[],15,[],[16,17,18]⟩,⟨[19],[19],20,[18],[]⟩,⟨[],[],21,[],[]⟩] (by kernel_rfl) (by kernel_rfl) (by kernel_rfl) ?_; refine rn F ?_))
  obtain ⟨q1,q2,q3,q4⟩:=hq
  dsimp only at q1 q2 q3 q4
  have c2:=QqU v q1 (QcT y tn) (QsZ (by rw [q3]; exact hc.1.1.1) tn) c.s.k.pg c.s.k.pl.size
  have hI:=fun (h:LgI c.s.k.lg) (z:Lg) (he:Ev (QbH (QcT y tn)).1 z)=>QsY h q2 (q4 h.1) he
  generalize QcT y tn = str at *
  generalize QbH str = o at *
  refine rn F ?_
  repeat' (first
    | with_reducible exact ⟨⟩
    | (refine Qj (c2) rfl ?_; rintro ⟨s2,e⟩ hk; refine rn F ?_))
  obtain ⟨k1,k2⟩:=hk
  dsimp only at k1 k2
  refine Qg (fun r:Tz c.tx.length=>⟨70,3,[(9,.int .i64 r.i),(8,.int .i64 e),(7,.ptr 4 0),(4,.ptr 3 0),(0,.ptr 0 0)],[scB ⟨c.s,r.l,c.rd,c.dead⟩ 1 2,scT r.l,scR c.rd,⟨138,true,[.int .i64 0,.int .i64 0,.int .i64 0,.bool false,.pv (.str []),.int .i64 0]⟩,⟨84,true,s2.d⟩]⟩) (fun r=>c.tx.length - r.i) ⟨0,c.tx,Nat.zero_le _,rfl⟩ (gc [0,1,2,4,6]) ?_
  rintro ⟨i,l,hi,hl⟩
  dsimp only
  have hsm:∀ (z:Sv) (d:Bool),z.sm->(⟨z,l,c.rd,d⟩:Sc).sm n:=fun z d hz=>⟨hz,by dsimp only; rw [hl]; exact hc.2.1,hc.2.2⟩
  have htx:=hc.2.1
  by_cases hil:i < c.tx.length
  · have hil2:i < l.length:=by omega
    have hset:=Qdp l i 0
    have F:=@hil2
    refine rn F ?_
    refine ⟨⟨i + 1,l.set i 0,hil,by rw [List.length_set]; exact hl⟩,by dsimp only; omega,?_⟩
    dsimp only
    rw [List.length_set]
    exact (gc [0,1,2,3,4])
  have hil2:¬ i < l.length:=by omega
  by_cases he:e = 0
  · subst he
    have c3:=Qd9 0
    have F:=trivial
    refine rn F ?_
    repeat' (first
      | with_reducible exact ⟨⟩
      | refine vp F (c3) ?_)
    exact Qz ⟨70,3,[(4,.ptr 3 0)],[scB ⟨s2,l,c.rd,c.dead⟩ 1 2,scT l,scR c.rd,⟨138,true,(Qfw 0).d⟩]⟩ (gc [0,1,2,3]) ⟨⟨s2,l,c.rd,c.dead⟩,Qfw 0,_,rfl,rfl,.inl ⟨⟨rfl,hsm s2 _ k1,fun h=>hI h _ (k2 rfl).2⟩,rfl⟩⟩
  · have c3:=Qd9 e
    have F:=@he
    refine rn F ?_
    repeat' (first
      | with_reducible exact ⟨⟩
      | refine vp F (c3) ?_)
    exact Qz ⟨70,3,[(4,.ptr 3 0)],[scB ⟨c.s,l,c.rd,true⟩ 1 2,scT l,scR c.rd,⟨138,true,(Qfw e).d⟩]⟩ (gc [0,1,2,3]) ⟨⟨c.s,l,c.rd,true⟩,Qfw e,_,rfl,rfl,.inl ⟨⟨rfl,hsm c.s _ hc.1,fun h=>h⟩,rfl⟩⟩
theorem Qus (c:Sc) (n:Nat) (hn:n<=2000) (hc:c.sm n) (t:Sp) (ht:t.kind = 6):Qg9 LgI c n t:=by
  refine QM (fn:=Tryz.f70) Tryz.func70 rfl (by kernel_rfl) (by simp [Tryz.f70]) ?_
  obtain ⟨k,tx,pg,torn,cut,a⟩:=t
  dsimp only at ht
  subst ht
  (unfold Tryz.f70; refine rn trivial ?_)
  refine QjJ (c:=c) 0 1 2 (Qrk c n hn hc ⟨6,tx,pg,torn,cut,a⟩) rfl rfl rfl (by decide) (by decide) (by decide) rfl rfl ?_ (fun _ _ h=>absurd h.1 (by decide)) (fun _ _ h=>absurd h.1 (by decide))
  rintro c1 r1 ⟨-,q1,q2⟩ B
  refine rn trivial ?_
  exact Qz ⟨132,3,[(4,.ptr 3 0)],[scB c1 1 2,scT (Sc.tx c1),scR (Sc.rd c1),⟨138,true,Rs.d (r1)⟩]⟩ (gc [0,1,2,4]) ⟨c1,r1,_,rfl,rfl,.inl ⟨⟨⟨q1.1,Nat.le_succ_of_le q1.2.1,Nat.le_succ_of_le q1.2.2⟩,q2⟩,rfl⟩⟩
end
section
attribute [local go_sem] cb cc
theorem Qx2 (c:C) (m n:Nat) (h1:1<=m) (h2:m<=1000) (h3:1<=n) (h4:n<=1000):VCalls prog 71 [.ptr 0 0,.int .i64 m,.int .i64 n,.bool true] [cb c] (CX fun r=>∃ t:Sp,r = .agg t.d):=by
  refine dd Tryz.func71 ?_
  (unfold Tryz.f71; refine rn trivial ?_)
  refine rn F ?_
  repeat' (first
    | with_reducible exact ⟨⟩
    | (refine sB F ?_ ?_<;>intro hZ)
    | (refine QH (k:=0) (QP _ 16 (by omega) (by omega)) rfl rfl ?_; rintro _ _ ⟨_,rfl,_⟩; refine rn F ?_)
    | (refine QH (k:=0) (QP _ 4 (by omega) (by omega)) rfl rfl ?_; rintro _ _ ⟨_,rfl,_⟩; refine rn F ?_)
    | (refine QH (k:=0) (QP _ 90 (by omega) (by omega)) rfl rfl ?_; rintro _ _ ⟨_,rfl,_⟩; refine rn F ?_)
    | (refine QH (k:=0) (QP _ 257 (by omega) (by omega)) rfl rfl ?_; rintro _ _ ⟨_,rfl,_⟩; refine rn F ?_)
    | (refine QH (k:=0) (QP _ m (by omega) (by omega)) rfl rfl ?_; rintro _ _ ⟨_,rfl,_⟩; refine rn F ?_)
    | (refine QH (k:=0) (QP _ n (by omega) (by omega)) rfl rfl ?_; rintro _ _ ⟨_,rfl,_⟩; refine rn F ?_)
    | (refine QH (k:=0) (QrR _ ((m:Int) + 1) (by omega) (by omega)) rfl rfl ?_; rintro _ _ ⟨_,rfl,_⟩; refine rn F ?_)
    | (refine QH (k:=0) (Qws _ m h1 h2) rfl rfl ?_; rintro _ _ ⟨_,rfl,_⟩; refine rn F ?_))
  all_goals exact ⟨_,rfl,rfl,Qam _,rfl,⟨⟨_,_,_,_,_,⟨_,_,_,_⟩⟩,rfl⟩,_,rfl⟩
structure Sd1 (most:Nat) where
  k:Nat
  c:C
  l:List Sp
  hk:k + l.length<=most + 2
theorem Quk (c:C) (m most:Nat) (h1:1<=m) (h2:m<=1000) (hm:most<=1000):VCalls prog 55 [.ptr 0 0,.int .i64 m,.int .i64 most,.bool true] [cb c] (CX fun r=>∃ l:List Sp,r = .pv (.sl (fz Qml l))/\l.length<=most + 2):=by
  refine dd Tryz.func55 ?_
  (unfold Tryz.f55; refine rn trivial ?_)
  refine QH (k:=0) (c:=c) (QrR c ((most:Int) + 1) (by omega) (by omega)) rfl rfl ?_
  rintro _ c1 ⟨k,rfl,hk⟩
  refine rn trivial ?_
  refine Qg (fun s:Sd1 most=>⟨30,1,[(10,.int .i64 s.k),(9,.own 1 9 0 s.l.length),(3,.bool true),(1,.int .i64 m),(0,.ptr 0 0)],[cb s.c,⟨143,true,cells Qml s.l⟩]⟩) (fun s=>s.k) ⟨k,c1,[spB,spB],by simp; omega⟩ (gc [0,1]) ?_
  rintro ⟨k,c2,l,hk⟩
  dsimp only
  have hb:(l.length + 1) * 80<=140737488355328:=by omega
  by_cases hc:0 < k
  · obtain ⟨k,rfl⟩:∃ k':Nat,k = k' + 1:=⟨k - 1,by omega⟩
    have hkk:((k + 1:Nat):Int) - 1 = k:=by omega
    have F:=(And.intro @hb @hkk)
    refine rn F ?_
    refine QH (k:=0) (c:=c2) (Qx2 c2 m 5 h1 h2 (by omega) (by omega)) rfl rfl ?_
    rintro _ c3 ⟨t,rfl⟩
    have F:=(And.intro @hb (And.intro @QDA @hkk))
    refine rn F ?_
    have hl2:(l ++ [t]).length = l.length + 1:=by simp
    refine ⟨⟨k,c3,l ++ [t],by rw [hl2]; omega⟩,by dsimp only; omega,?_⟩
    dsimp only
    rw [hl2]
    exact (gc [0,3])
  · skip
    have F:=@hb
    refine rn F ?_
    exact ⟨_,rfl,rfl,Qam _,rfl,⟨l,rfl,by omega⟩,_,rfl⟩
theorem Qoa (c:C) (most:Nat) (hm:most<=1000):VCalls prog 31 [.ptr 0 0,.int .i64 most,.bool true] [cb c] (CX fun r=>∃ s:Sv,r = .agg s.d/\s.sm/\LgI s.k.lg):=by
  refine dd Tryz.func31 ?_
  (unfold Tryz.f31; refine rn trivial ?_)
  refine QH (k:=0) (c:=c) (QP c 4 (by omega) (by omega)) rfl rfl ?_
  rintro _ c1 ⟨x,rfl,hx⟩
  obtain ⟨m,hm1,hm2⟩:∃ m:Nat,1 + (x:Int) = m/\m<=4:=⟨1 + x,by omega,by omega⟩
  refine rn @hm1 ?_
  refine QH (k:=0) (c:=c1) (QP c1 3 (by omega) (by omega)) rfl rfl ?_
  rintro _ c2 ⟨y,rfl,hy⟩
  refine rn trivial ?_
  refine Qj (QBe m (1 + y) (by omega) (by omega)) rfl ?_
  rintro ⟨s,e⟩ ⟨hs,he,hg⟩
  dsimp only at hs he hg
  subst he
  refine rn F ?_
  repeat' (first
    | with_reducible exact ⟨⟩
    | (refine Qb (id:=3) [0,1,2,3,4] [⟨[],[],5,[0],[]⟩,⟨[],[],6,[1,2,3,4],[7,8,9,10]⟩,⟨[],[],11,[9,10],[]⟩] (by kernel_rfl) (by kernel_rfl) ?_; refine rn F ?_))
  refine QH (k:=0) (c:=c2) (Quk c2 m most (by omega) (by omega) hm) rfl rfl ?_
  rintro _ c3 ⟨l,rfl,hl⟩
  have c9:=QBg LgI (fun x y h hx=>⟨h.ok hx.1,h.f.trans hx.2⟩) s hs l (fun i _ hk c n hn hc=>Qus c n hn hc _ hk)
  refine rn trivial ?_
  refine Qj c9 rfl ?_
  rintro ⟨s1,out,rd⟩ ⟨q1,q2⟩
  refine rn trivial ?_
  exact ⟨_,rfl,rfl,Qam _,rfl,⟨s1,rfl,q1,q2 (by rw [hg]; exact ⟨QCw,rfl⟩)⟩,_,rfl⟩
theorem Qr3 (c:C) (most:Nat) (hm:most<=1000):VCalls prog 9 [.ptr 0 0,.int .i64 most,.bool true] [cb c] (CX fun r=>∃ k:Kn,r = .agg k.d/\k.sm/\LgI k.lg):=by
  refine dd Tryz.func9 ?_
  (unfold Tryz.f9; refine rn trivial ?_)
  refine QH (k:=0) (c:=c) (Qoa c most hm) rfl rfl ?_
  rintro _ c1 ⟨s,rfl,hs,hi⟩
  refine rn trivial ?_
  exact ⟨_,rfl,rfl,Qam _,rfl,⟨s.k,rfl,hs.1,hi⟩,_,rfl⟩
end
section
attribute [local go_sem] cb cc
theorem Qqy {l:Int} {es:List E} (h:Qpo l es) (n:Nat):Qpo (l + n) (es.drop n):=fun i hi=>by
  rw [List.length_drop] at hi
  have:=h (n + i) (by omega)
  rw [show (es.drop n).getD i E0 = es.getD (n + i) E0 by simp [List.getD_eq_getElem?_getD]]
  exact ⟨by rw [this.1]; omega,this.2⟩
structure DLg (x:Lg):Prop where
  ok:lgB x = true
  len:x.es.length<=4096
  end_:x.f + x.es.length<=4097
theorem DLg.lsn {x:Lg} (h:DLg x) (i:Nat) (hi:i < x.es.length):1<=(x.es.getD i E0).lsn/\(x.es.getD i E0).lsn<=1000000000:=by
  have h1:=Qi6 h.ok i hi
  have h2:=QB h.ok
  simp only [Lg.hd] at h2
  have h3:=h.end_
  rw [h1.1]
  omega
theorem QzQ {z:Lg} (hz:lgB z = true) (hf:z.f = 1) {u:Int} (h0:0<=u) (hu:z.f + u<=z.d + 1):DLg (QAB z (z.f + u)).1:=by
  have hd:=QB hz
  simp only [Lg.hd] at hd
  unfold QAB
  rw [if_neg (by rw [hz]; decide),if_neg (by unfold Lg.end_; omega),if_neg (by omega)]
  have e1:z.f + u - z.f = u:=by omega
  dsimp only
  rw [e1]
  have hs:=Qqy (Qi6 hz) u.toNat
  rw [show ((u.toNat:Nat):Int) = u by omega] at hs
  have hl:(z.es.drop u.toNat).length = z.es.length - u.toNat:=List.length_drop
  exact ⟨QwV (x:=⟨z.f + u,z.es.drop u.toNat,z.d⟩) ⟨by dsimp only; omega,by dsimp only; omega,by dsimp only; omega,by dsimp only; omega,by dsimp only; omega⟩ hs,by dsimp only; omega,by dsimp only; omega⟩
theorem QB6 (c:C) (most:Nat) (hm:most<=1000):VCalls prog 22 [.ptr 0 0,.int .i64 most] [cb c] (CX fun r=>∃ x:Lg,r = .agg x.c/\DLg x):=by
  refine dd Tryz.func22 ?_
  (unfold Tryz.f22; refine rn trivial ?_)
  refine QH (k:=0) (c:=c) (Qr3 c most hm) rfl rfl ?_
  rintro _ c1 ⟨k,rfl,hk,hv,hf⟩
  obtain ⟨pg,nx,x,pl,lk,tx,ix,la⟩:=k
  dsimp only at hv hf
  have hl:x.es.length<=4096:=hk.1
  refine rn trivial ?_
  refine QH (k:=0) (c:=c1) (QP c1 2 (by omega) (by omega)) rfl rfl ?_
  rintro _ c2 ⟨y,rfl,hy⟩
  have q1:=Qea x (by omega)
  have q2:=QfL x (by omega) (QcL x)
  have hF:lgB (Q9 x (QcL x)).1 = true/\(Q9 x (QcL x)).1.f = 1:=by
    have hd:=QB hv
    simp only [Lg.hd] at hd
    have e1:QcL x = x.end_:=if_pos hv
    have h0:(Q9 x (QcL x)).2 = 0:=by
      unfold Q9
      rw [if_neg (by rw [hv]; decide),if_neg (by rw [e1]; omega)]
    exact ⟨(Qer h0).ok hv,(Qer h0).f.trans hf⟩
  generalize Q9 x (QcL x) = F0 at *
  obtain ⟨z0,e0⟩:=F0
  dsimp only at hF
  refine rn F ?_
  repeat' (first
    | with_reducible exact ⟨⟩
    | (refine sB F ?_ ?_<;>intro hZ)
    | refine vp F (q1) ?_
    | refine vp F (q2) ?_
    | (refine Qb (id:=3) [0,1] [⟨[],[],2,[0],[]⟩,⟨[],[],3,[1],[4,5,6]⟩,⟨[],[],7,[6],[]⟩] (by kernel_rfl) (by kernel_rfl) ?_; refine rn F ?_))
  case' refine_1=>obtain ⟨z,rfl,hz,hzf⟩:∃ z,z = z0/\lgB z = true/\z.f = 1:=⟨z0,rfl,hF⟩
  case' refine_2=>obtain ⟨z,rfl,hz,hzf⟩:∃ z,z = x/\lgB z = true/\z.f = 1:=⟨x,rfl,hv,hf⟩
  all_goals
    have hd:=QB hz
    simp only [Lg.hd] at hd
    have hl2:z.es.length<=4096:=hd.2.2.1
    refine QH (k:=0) (c:=c2) (QP c2 5 (by omega) (by omega)) rfl rfl ?_
    rintro _ c3 ⟨w,rfl,hw⟩
    by_cases hq:(w:Int) = 0/\z.d >= z.f
    · obtain ⟨hq1,hq2⟩:=hq
      have F:=(And.intro @hq1 @hq2)
      refine rn F ?_
      repeat' (first
        | with_reducible exact ⟨⟩
        | (refine Qb (id:=5) [0,1,2,3,4,5,6,7,8,9] [⟨[],[],10,[0,1,2,4,5,6,7,8],[11]⟩,⟨[],[],12,[1,2,3,4,5,6,7,8,9],[13,14,15]⟩,⟨[],[],16,[15],[]⟩] (by kernel_rfl) (by kernel_rfl) ?_; refine rn F ?_))
      refine QH (k:=0) (c:=c3) (QrR c3 (z.d - z.f + 2) (by omega) (by omega)) rfl rfl ?_
      rintro _ c4 ⟨u,rfl,hu⟩
      have q3:=QBx z (by omega) (z.f + u)
      have F:=trivial
      refine rn F ?_
      repeat' (first
        | with_reducible exact ⟨⟩
        | refine vp F (q3) ?_)
      exact ⟨_,rfl,rfl,Qam _,rfl,⟨(QAB z (z.f + u)).1,rfl,QzQ hz hzf (by omega) (by omega)⟩,_,rfl⟩
    · skip
      have F:=trivial
      refine rn F ?_
      repeat' (first
        | with_reducible exact ⟨⟩
        | (refine sG F ?_ ?_<;>intro hZ))
      all_goals first
        | exact ⟨_,rfl,rfl,Qam _,rfl,⟨z,rfl,hz,hl2,by omega⟩,_,rfl⟩
        | (exfalso; omega)
        | skip
end
section
attribute [local go_sem] cb cc Lg.c
theorem QBI (c:C) (n:Int):VCalls prog 20 [.ptr 0 0,.int .i64 n] [cb c] (CX fun r=>∃ z:Int,r = .int .i64 z):=by
  by_cases h0:n < 1
  · refine dd Tryz.func20 ?_
    have ha:=c.ha
    have hl:=c.hl
    simp (config:={ maxSteps:=2000000 }) (implicitDefEqProofs:=false) (disch:=first | omega | assumption | (simp only []; done) | fail) only [go_sem,Nat.reduceAdd,Int.reduceAdd,Tryz.f20,cb,cc]
    refine QdB (by kernel_rfl) (by kernel_rfl) ?_
    by_cases a:c.at_ < c.l.length
    · simp (config:={ maxSteps:=2000000 }) (implicitDefEqProofs:=false) (disch:=first | omega | assumption | (simp only []; done) | fail) only [go_sem,↓reduceIte,reduceCtorEq,Nat.reduceAdd,Nat.reduceBEq,Int.reduceAdd,Int.reduceBEq,h0]
      exact ⟨_,rfl,rfl,rfl,rfl,⟨_,rfl⟩,c,rfl⟩
    · simp (config:={ maxSteps:=2000000 }) (implicitDefEqProofs:=false) (disch:=first | omega | assumption | (simp only []; done) | fail) only [go_sem,↓reduceIte,reduceCtorEq,Nat.reduceAdd,Nat.reduceBEq,Int.reduceAdd,Int.reduceBEq]
      exact ⟨_,rfl,rfl,rfl,rfl,⟨_,rfl⟩,c,rfl⟩
  obtain ⟨m,rfl,h1⟩:∃ m:Nat,n = m/\1<=m:=⟨n.toNat,by omega,by omega⟩
  by_cases hs:m<=256
  · exact (Qi3 c m h1 hs).mono fun r h' ⟨B,e1,e2,e3,e4,⟨x,e5,_⟩,e6⟩=>⟨B,e1,e2,e3,e4,⟨x,e5⟩,e6⟩
  refine dd Tryz.func20 ?_
  have ha:=c.ha
  have hl:=c.hl
  simp (config:={ maxSteps:=2000000 }) (implicitDefEqProofs:=false) (disch:=first | omega | assumption | (simp only []; done) | fail) only [go_sem,Nat.reduceAdd,Int.reduceAdd,Tryz.f20,cb,cc]
  refine QdB (by kernel_rfl) (by kernel_rfl) ?_
  by_cases a:c.at_ < c.l.length
  · simp (config:={ maxSteps:=2000000 }) (implicitDefEqProofs:=false) (disch:=first | omega | assumption | (simp only []; done) | fail) only [go_sem,↓reduceIte,reduceCtorEq,Nat.reduceAdd,Nat.reduceBEq,Int.reduceAdd,Int.reduceBEq]
    refine QdB (by kernel_rfl) (by kernel_rfl) ?_
    have hg:=Qmf c.l c.at_ a
    have hh:(c.l.getD c.at_ 0).toNat < 256:=UInt8.toNat_lt _
    generalize hx:(c.l.getD c.at_ 0).toNat = x at hg hh
    simp (config:={ maxSteps:=2000000 }) (implicitDefEqProofs:=false) (disch:=first | omega | assumption | (simp only [List.length_cons,List.length_nil,Nat.zero_add]; done) | fail) only [go_sem,↓reduceIte,reduceCtorEq,Nat.reduceAdd,Nat.reduceLT,Nat.reduceBEq,Int.reduceLT,Int.reduceAdd,Int.reduceBEq,hg]
    refine QH (k:=0) (c:=⟨c.l,c.at_ + 1,a,hl⟩) (Qi3 _ 256 (by omega) (by omega)) rfl rfl ?_
    rintro r c' ⟨z,rfl,hz⟩
    simp (config:={ maxSteps:=2000000 }) (implicitDefEqProofs:=false) (disch:=first | omega | assumption | (simp only []; done) | fail) only [go_sem,Nat.reduceBEq,Int.reduceBEq,cb,cc]
    obtain ⟨y,hy,hlt⟩:=QiG (256 * x + z) m h1
    have e:(256 * (x:Int) + (z:Int)) = ((256 * x + z:Nat):Int):=by omega
    refine ⟨_,rfl,rfl,rfl,rfl,⟨y,by rw [e,hy]⟩,c',rfl⟩
  · simp (config:={ maxSteps:=2000000 }) (implicitDefEqProofs:=false) (disch:=first | omega | assumption | (simp only []; done) | fail) only [go_sem,↓reduceIte,reduceCtorEq,Nat.reduceAdd,Nat.reduceBEq,Int.reduceAdd,Int.reduceBEq]
    exact ⟨_,rfl,rfl,rfl,rfl,⟨0,rfl⟩,c,rfl⟩
end
section
attribute [local go_sem] cb cc Lg.c QgI QhG Qho Qhn QhA
theorem Qvk (c:C) (x:Lg) (hl:x.es.length<=4096):VCalls prog 10 [.ptr 0 0,.agg x.c] [cb c] (CX fun r=>∃ y:Lg,r = .agg y.c/\y.es.length<=4096):=by
  refine dk Tryz.func10 ?_
  obtain ⟨f,es,d⟩:=x
  dsimp only at hl
  (unfold Tryz.f10; refine rn trivial ?_)
  refine rn F ?_
  repeat' (first
    | with_reducible exact ⟨⟩
    | (refine sG F ?_ ?_<;>intro hZ)
    | (refine sB F ?_ ?_<;>intro hZ)
    | (refine QH (k:=0) (QP _ 8 (by omega) (by omega)) rfl rfl ?_; rintro _ _ ⟨_,rfl,_⟩; refine rn F ?_)
    | (refine QH (k:=0) (Qr7 _) rfl rfl ?_; rintro _ _ ⟨_,rfl,_⟩; refine rn F ?_))
  all_goals first
    | exact ⟨_,rfl,rfl,Qam _,rfl,⟨⟨_,_,_⟩,rfl,hl⟩,_,rfl⟩
    | skip
  refine QH (k:=0) (QP _ es.length (by omega) (by omega)) rfl rfl ?_
  rintro _ c2 ⟨k,rfl,hk⟩
  have h0:=gE0 es k hk
  have h1:k * 13 < es.length * 13:=by omega
  have h2:k * 13 + 3 < es.length * 13:=by omega
  have h3:k * 13 + 4 < es.length * 13:=by omega
  have h4:k * 13 + 13<=es.length * 13:=by omega
  have he:=elE es k hk
  have h5:=sE3 es k hk
  have h6:=sE4 es k hk
  have h7:=Qya es k hk
  have h8:=fun e=>@List.length_set _ es k e
  generalize (es.getD k E0).lsn = n at *
  have F:=(And.intro @h0 (And.intro @h1 (And.intro @h2 (And.intro @h3 (And.intro @h4 (And.intro @he (And.intro @h5 (And.intro @h6 (And.intro @h7 @h8)))))))))
  refine rn F ?_
  repeat' (first
    | with_reducible exact ⟨⟩
    | (refine sB F ?_ ?_<;>intro hZ)
    | (refine QH (k:=0) (QP _ 4 (by omega) (by omega)) rfl rfl ?_; rintro _ _ ⟨_,rfl,_⟩; refine rn F ?_)
    | (refine QH (k:=0) (Qr7 _) rfl rfl ?_; rintro _ _ ⟨_,rfl,_⟩; refine rn F ?_)
    | (refine QH (k:=0) (Qou _ _) rfl rfl ?_; rintro _ _ ⟨_,rfl,_⟩; refine rn F ?_)
    | (refine QH (k:=0) (QBI _ _) rfl rfl ?_; rintro _ _ ⟨_,rfl,_⟩; refine rn F ?_)
    | (refine Qb (id:=10) [0,1,2,3,4,5,6,7,8,9] [⟨[],[],10,[0,1,2,4,5,6,7,8],[11,12]⟩,⟨[],[],13,[11],[]⟩] (by kernel_rfl) (by kernel_rfl) ?_; refine rn F ?_)
    | (refine Qb (id:=12) [0,1,2,3,4,5,6,7,8,9] [⟨[],[],10,[0,1,2,4,5,6,7,8],[11,12]⟩,⟨[],[],13,[11],[]⟩] (by kernel_rfl) (by kernel_rfl) ?_; refine rn F ?_)
    | (refine Qb (id:=14) [0,1,2,3,4,5,6,7,8] [⟨[],[],9,[0,1,2,4,5,6,7],[10]⟩,⟨[],[],11,[],[]⟩] (by kernel_rfl) (by kernel_rfl) ?_; refine rn F ?_))
  all_goals first
    | exact ⟨_,rfl,rfl,Qam _,rfl,⟨⟨_,_,_⟩,rfl,hl⟩,_,rfl⟩
    | exact ⟨_,rfl,rfl,Qam _,rfl,⟨⟨_,_,_⟩,rfl,by rw [List.length_set]; exact hl⟩,_,rfl⟩
    | skip
theorem Qzb:VCalls prog 30 [] [] (Ret (.agg Lg1.c)):=by
  refine dk Tryz.func30 ?_
  (unfold Tryz.f30; refine rn trivial ?_)
  rfl
def e07:E:=⟨0,1,1,0,0,0,Ch0,[]⟩
def QDG:Lg:=⟨1,[⟨1,1,1,0,0,0,Ch0,[]⟩],0⟩
def QCx:Lg:=⟨1,[⟨1,1,1,0,1,0,Ch0,[]⟩],0⟩
end
section
attribute [local go_sem] Ce.d Ch.d E.d QgI QhG Qho Qhn QhA QcW Qtz Qty Nat.not_lt_zero Qaz Qak Lg.c QDH
theorem QA3 (c:Qpl) (hp:Qa) (g:MapsD) (b kb kc bt bp bu:Nat) (f:Int) (e:E) (L:List (Int × DV)) (hkb:kb < hp.length) (hb:Qf hp kb = some e.d) (hk:kc < hp.length) (hc:Qf hp kc = some (ckC f bt bp bu)) (hg:(bt,QcQ kI L) ∈ g)
    (k:Nat) (la:Int) (ea en:Bool) (hkk:k < hp.length) (hkc:Qf hp k = some (rnC la ea false en (.pv (.slc [])))) (hn:QgP L e.tx = some (.ptr k 0))
    (h2:k ≠ kc) (h3:k ≠ kb) (hq:e.kind = 1) :
    VWpG prog (Qcm c) (Qhr 3 (Qg3 Tryz.f35)) (Qjt prog [.tmp 4] fun r h' g'=>r = .bool true) ⟨97,b,[(3,.ptr kb 0),(0,.ptr kc 0)],hp⟩ g:=by
  unfold ckC at hc
  unfold rnC at hkc
  unfold E.d at hb
  show VWpG prog (Qcm c) (.seq _ _) _ _ _
  refine VWpG.seq ?_
  refine VWpG.drawn (k:=6) (f:=6) (Qc c) (by kernel_rfl) (by kernel_rfl) (by kernel_rfl) (by kernel_rfl) rfl ?_; refine QfW (by kernel_rfl) ?_
  refine rn (And.intro @hk (And.intro @hc (And.intro @hb @hkb))) ?_
  refine QkX (zv:=.pointer none) (L:=L) (k:=e.tx) rfl rfl um1 Qza (Qd5 z1) (QfE rfl) rfl hg (QdL rfl) ?_
  rw [hn]
  refine rn trivial ?_
  refine VWpG.plain (Qc c) ?_
  have F:=(And.intro @hk (And.intro @hc (And.intro @hb (And.intro @hkb (And.intro @hkk (And.intro @hkc (And.intro @h2 (And.intro @h3 (And.intro @h2.symm (And.intro @h3.symm ((eq_true hq))))))))))))
  refine rn F ?_
  repeat' (first
    | with_reducible exact ⟨⟩
    | (refine Qb (id:=10) [0,1,2,3,4,5] [⟨[6],[6],7,[0,1,2,3,5],[8,9]⟩,⟨[],[],10,[8],[]⟩] (by kernel_rfl) (by kernel_rfl) ?_; refine rn F ?_))
theorem Qvo (hp:Qa) (g:MapsD) (kc bt bp bu:Nat) (hbb:bt ≠ bp) (hk:kc < hp.length) (hc:Qf hp kc = some (ckC 1 bt bp bu)) (hgt:(bt,QcQ kI []) ∈ g) (hgp:(bp,QcQ kI (Qmb [])) ∈ g) (e:E) (hq:e.kind = 1) (htx:e.tx ≠ 0) (hpt:e.ptx < 1) (hpp:e.ppg < 1) :
    VCallsG prog 35 [.ptr kc 0,.agg e.d] hp g (fun r h' g'=>r = .bool true):=by
  have hr0:=fun (B:Blk)=>QsS (hp ++ [B]) g kc bt bp bu 1 e [] (by simp; omega) ((Qbe hk).trans hc) hgt rfl
  have hcg:VCalls prog 43 [.agg e.d] [] (Ret (.bool (e.kind == 1 || e.kind == 2))):=QgX e
  rw [show (e.kind == 1 || e.kind == 2) = true by simp [hq]] at hcg
  rw [decide_eq_true hpt] at hr0
  refine QeH (fn:=Tryz.f35) Tryz.func35 rfl (by kernel_rfl) (by simp [Tryz.f35]) (fun c=>?_)
  have hc0:=hc
  unfold ckC at hc
  unfold E.d at hr0 hcg
  refine VWpG.first (Qc c) ?_
  (unfold Tryz.f35; refine rn trivial ?_)
  refine VWpG.seq ?_
  refine VWpG.first (Qc c) ?_
  refine rn @htx ?_
  refine VWpG.cond rfl (fun hZ=>?_) (fun hZ=>?_)
  · cases hZ
  refine VWpG.plain (Qc c) ?_
  refine rn trivial ?_
  refine VWpG.seq ?_
  refine VWpG.seq ?_
  refine VWpG.cut1 (Qc c) 2 [7] ?_
  refine rn trivial ?_
  refine QiV rfl rfl rfl (hr0 _) ?_
  rintro r h1' g1 ⟨rfl,⟨x,hh⟩,hg1⟩
  refine QfF ?_
  have hlen:h1'.length = hp.length + 3:=by rw [hh]; simp
  have q1:kc < h1'.length:=by omega
  have q2:Qf h1' kc = some (ckC 1 bt bp bu):=by rw [hh,Qbe (by simp; omega),Qbe (by simp; omega),Qbe hk]; exact hc0
  have q4:Qf h1' hp.length = some e.d:=by rw [hh,Qbe (by simp),Qbe (by simp),Qwj]; rfl
  have q5:Qf h1' (hp.length + 2) = some (rnC e.lsn (decide (0 < e.ptx)) false false (.pv (.slc []))):=by rw [hh,Qmq (by simp)]; simp; rfl
  have hn:QgP (Qha ([]:List (Int × DV)) e.tx (.ptr (hp.length + 2) 0)) e.tx = some (.ptr (hp.length + 2) 0):=by rw [Qnr,if_pos rfl]
  have hgt1:(bt,QcQ kI (Qha [] e.tx (.ptr (hp.length + 2) 0))) ∈ g1:=by
    rw [hg1]
    refine List.mem_map.2 ⟨_,hgt,?_⟩
    simp
  have hgp1:(bp,QcQ kI (Qmb [])) ∈ g1:=by
    rw [hg1]
    refine List.mem_map.2 ⟨_,hgp,?_⟩
    simp [Ne.symm hbb]
  clear hh hg1
  have q4':=q4
  have q2':=q2
  unfold E.d at q4'
  unfold ckC at q2'
  have hl3:hp.length < h1'.length:=by omega
  refine rn (And.intro @q4' @hl3) ?_
  refine Qax hcg rfl ?_
  refine rn (And.intro @q4' @hl3) ?_
  refine QiV rfl rfl rfl (Qv7 h1' _ kc bt bp bu 1 e [] q1 q2 hgp1) ?_
  rintro r h2' g2 ⟨rfl,⟨y,rfl⟩,rfl⟩
  rw [show pagedB 1 [] e = true by simp [pagedB,QkL,hpp]]
  refine rn trivial ?_
  refine VWpG.cond rfl (fun hZ=>?_) (fun hZ=>?_)
  · cases hZ
  refine VWpG.plain (Qc c) ?_
  refine rn trivial ?_
  refine VWpG.weakG (QA3 c (h1' ++ [y]) _ (h1'.length + 1) hp.length kc bt bp bu 1 e _ (by simp; omega) ((Qbe hl3).trans q4) (by simp; omega) ((Qbe q1).trans q2) (List.mem_map.2 ⟨_,hgt1,by simp [hbb]⟩) (hp.length + 2) _ _ _ (by simp; omega) ((Qbe (by omega)).trans q5) hn (by omega) (by omega) hq) (WeakG.slots rfl rfl ?_)
  intro p hp
  simp only [List.mem_cons,List.not_mem_nil,or_false] at hp
  rcases hp with rfl | rfl<;>exact .inl rfl
structure C07 (hp0:Qa) (g0:MapsD) where
  i:Nat
  hi:i<=1
  hp:Qa
  g:MapsD
  h0:i = 0->hp = hp0/\g = g0
theorem Qs8 (x:Lg) (hl:x.es.length = 1) (hv:lgB x = true) (hf:x.f = 1) (e:E) (hg:x.es.getD 0 E0 = e) (hq:e.kind = 1) (htx:e.tx ≠ 0) (hpt:e.ptx < 1) (hpp:e.ppg < 1):VCalls prog 11 [.agg x.c] [] (Ret (.int .i64 0)):=by
  refine QdC (fn:=Tryz.f11) Tryz.func11 rfl (by kernel_rfl) (by simp [Tryz.f11]) (fun c=>?_)
  have hjv:=Qdh x (by omega)
  rw [hv] at hjv
  unfold Lg.c at hjv
  refine VWpG.first (Qc c) ?_
  (unfold Tryz.f11; refine rn trivial ?_)
  refine VWpG.seq ?_
  refine VWpG.first (Qc c) ?_
  refine rn trivial ?_
  refine Qax hjv rfl ?_
  refine rn trivial ?_
  refine VWpG.cond rfl (fun hZ=>?_) (fun hZ=>?_)
  · cases hZ
  refine VWpG.plain (Qc c) ?_
  refine rn trivial ?_
  refine VWpG.seq ?_
  refine VWpG.cut1 (Qc c) 2 [0,0] ?_
  refine rn trivial ?_
  refine Qdf rfl (fun c=>by simp) (Qet rfl rfl fun bt h1=>QfF ?_)
  refine rn trivial ?_
  refine Qdf rfl (fun c=>by simp) (Qet rfl rfl fun bp h2=>QfF ?_)
  refine rn trivial ?_
  refine Qdf rfl (fun c=>by simp) (Qet rfl rfl fun bu h3=>?_)
  refine rn trivial ?_
  refine VWpG.seq ?_
  refine VWpG.first (Qc c) ?_
  refine rn trivial ?_
  refine VWpG.block ?_
  have hbb:bt ≠ bp:=h2 (bt,[]) (by simp)
  generalize hG0:([(bu,[]),(bp,[]),(bt,[])]:MapsD) = g0
  generalize hH0:([⟨25,true,[.int .i64 x.f,.pv (.sl (fz encE x.es)),.int .i64 x.d]⟩,⟨94,true,[.int .i64 x.f,.pv (.lit (.map (some bt))),.pv (.lit (.map (some bp))),.pv (.lit (.map (some bu)))]⟩]:Qa) = hp0
  refine VWpG.loop (fun s:C07 hp0 g0=>⟨28,2,[(19,.int .i64 s.i),(18,.int .i64 (1:Nat)),(17,.pv (.sl (fz encE x.es))),(3,.ptr 1 0)],s.hp⟩) (fun s=>s.g) (fun s=>1 - s.i) ⟨0,Nat.zero_le _,hp0,g0,fun _=>⟨rfl,rfl⟩⟩ ?_ ?_
  · refine WeakG.slots rfl rfl ?_
    intro p hp
    simp only [List.mem_cons,List.not_mem_nil,or_false] at hp
    rcases hp with rfl | rfl | rfl | rfl<;>first | exact .inl rfl | (rw [<- hl]; exact .inl rfl)
  rintro ⟨i,hi,hp,g,h0⟩
  dsimp only
  refine VWpG.first (Qc c) ?_
  refine rn trivial ?_
  refine VWpG.seq ?_
  rcases (show i = 0\/i = 1 by omega) with rfl | rfl
  · obtain ⟨rfl,rfl⟩:=h0 rfl
    subst hG0 hH0
    have hgz:=QvP x.es 0 (by omega)
    rw [hg] at hgz
    refine VWpG.cond (t:=true) rfl (fun _=>?_) (fun h=>by cases h)
    refine VWpG.plain (Qc c) ?_
    refine rn trivial ?_
    refine VWpG.seq ?_
    refine VWpG.block ?_
    refine VWpG.first (Qc c) ?_
    refine rn @hgz ?_
    refine VWpG.seq ?_
    refine VWpG.cut1 (Qc c) 2 [] ?_
    refine rn trivial ?_
    refine QiV rfl rfl rfl (Qvo _ _ 1 bt bp bu hbb (by simp) (by rw [hf]; rfl) (by simp [QcQ]) (by simp [QcQ,Qmb]) e hq htx hpt hpp) ?_
    rintro r h' g' rfl
    refine rn trivial ?_
    refine VWpG.cond rfl (fun hZ=>?_) (fun hZ=>?_)
    · cases hZ
    refine VWpG.plain (Qc c) ?_
    refine rn trivial ?_
    refine VWpG.plain (Qc c) ?_
    refine rn trivial ?_
    refine ⟨⟨1,Nat.le_refl _,h',g',fun h=>by cases h⟩,by dsimp only; omega,WeakG.slots rfl rfl ?_⟩
    intro p hp
    simp only [List.mem_cons,List.not_mem_nil,or_false] at hp
    rcases hp with rfl | rfl | rfl | rfl<;>exact .inl rfl
  · refine VWpG.cond (t:=false) rfl (fun h=>by cases h) (fun _=>?_)
    refine VWpG.plain (Qc c) ?_
    refine rn trivial ?_
    refine VWpG.plain (Qc c) ?_
    (refine rn trivial ?_; try with_reducible exact ⟨⟩)
theorem Qo3 (x:Lg) (hl:x.es.length<=100) (hv:lgB x = false):VCalls prog 11 [.agg x.c] [] (Ret (.int .i64 26)):=by
  refine QdC (fn:=Tryz.f11) Tryz.func11 rfl (by kernel_rfl) (by simp [Tryz.f11]) (fun c=>?_)
  have hjv:=Qdh x (by omega)
  rw [hv] at hjv
  unfold Lg.c at hjv
  refine VWpG.first (Qc c) ?_
  (unfold Tryz.f11; refine rn trivial ?_)
  refine VWpG.seq ?_
  refine VWpG.first (Qc c) ?_
  refine rn trivial ?_
  refine Qax hjv rfl ?_
  refine rn trivial ?_
  refine VWpG.cond rfl (fun hZ=>?_) (fun hZ=>?_)
  · refine VWpG.plain (Qc c) ?_
    (refine rn trivial ?_; try with_reducible exact ⟨⟩)
  · cases hZ
theorem Qtl:VCalls prog 7 [] [] (Ret (.bool true)):=by
  refine dd Tryz.func7 ?_
  have c1:=Qwo Lg1 (by decide) e07
  rw [show QdV Lg1 e07 = (QDG,1,0) from rfl] at c1
  have c2:=Qs8 QDG rfl (by decide) rfl ⟨1,1,1,0,0,0,Ch0,[]⟩ rfl rfl (by decide) (by decide) (by decide)
  have c3:=Qo3 QCx (by decide) (by decide)
  have c4:=Qzb
  unfold Lg.c QCn at c1
  unfold Lg.c at c2 c3
  dsimp only [QDG,QCx,Lg.c] at c1 c2 c3
  obtain ⟨es,hes⟩:∃ es:List E,es = [⟨1,1,1,0,0,0,Ch0,[]⟩]:=⟨_,rfl⟩
  obtain ⟨es2,hes2⟩:∃ es2:List E,es2 = [⟨1,1,1,0,1,0,Ch0,[]⟩]:=⟨_,rfl⟩
  rw [<- hes] at c1 c2
  rw [<- hes2] at c3
  have hl:es.length = 1:=by rw [hes]; rfl
  have hl2:es2.length = 1:=by rw [hes2]; rfl
  have hcl:(cells encE es).length = 13:=by rw [hes]; rfl
  have hset:(cells encE es).set 4 (.pv (.lit (.int .i64 1))) = cells encE es2:=by rw [hes,hes2]; rfl
  clear hes hes2
  (unfold Tryz.f7; refine rn trivial ?_)
  have F:=(And.intro @hl (And.intro @hl2 (And.intro @hcl @hset)))
  refine rn F ?_
  repeat' (first
    | with_reducible exact ⟨⟩
    | refine vp F (c4) ?_
    | refine vp F (c1) ?_
    | refine vp F (c2) ?_
    | refine vl F (c3) ?_)
end
section
attribute [local go_sem] cb cc Lg.c
def QoS:Enc Lg:=⟨3,fun x=>[.lit (.int .i64 x.f),.sl (fz encE x.es),.lit (.int .i64 x.d)],by decide,fun _=>rfl⟩
theorem QEB (l:List Lg) (i:Nat) (h:i < l.length):((cells QoS l).drop (i * 3)).take 3 = (l.getD i Lg0).c:=by rw [Qk l i h]; exact Qex QoS l i h
def QB4:Enc (Int × Int × Int):=⟨3,fun x=>[.lit (.int .i64 x.1),.lit (.int .i64 x.2.1),.lit (.int .i64 x.2.2)],by decide,fun _=>rfl⟩
theorem elZ (l:List (Int × Int × Int)) (i:Nat) (h:i < l.length):((cells QB4 l).drop (i * 3)).take 3 = [.int .i64 (l.getD i (0,0,0)).1,.int .i64 (l.getD i (0,0,0)).2.1,.int .i64 (l.getD i (0,0,0)).2.2]:=by rw [Qk l i h]; exact Qex QB4 l i h
theorem QrE {f:Int} {es:List E} (W:Wf f es) (hp:Bef f es E.ppg) (hl:es.length<=4096) (page above:Int):∀ (n:Nat) (a:Int) (out:List E),(out = []\/out.length + (a - f + 1).toNat<=4096)->(pgW f es page above n a out).1.length<=4096
  | 0,_,_,_=>Nat.zero_le _
  | n + 1,a,out,h=>by
    rw [pgW]
    split
    · split
      · exact Nat.zero_le _
      · rename_i hr
        split
        · refine QrE W hp hl page above n _ _ (.inr ?_)
          have h2:=hp (a - f).toNat (by omega)
          rw [List.length_cons]
          rcases h with rfl | h
          · rw [List.length_nil]; omega
          · omega
        · exact Nat.zero_le _
    · split
      · exact Nat.zero_le _
      · dsimp only
        rcases h with rfl | h
        · exact Nat.zero_le _
        · omega
theorem QrI (x:Lg) (page last above:Int):(Qgw x page last above).1.length<=4096:=by
  unfold Qgw
  split
  · exact Nat.zero_le _
  · rename_i hv
    have hv:lgB x = true:=by cases h:lgB x<;>simp_all
    split
    · exact Nat.zero_le _
    · exact QrE (Wf.of hv) (QdS hv) (QB hv).2.2.1 _ _ _ _ _ (.inl rfl)
theorem QrF (x:Lg) (last:Int):(Qgu x last).1.length<=4096:=by
  unfold Qgu
  split
  · exact Nat.zero_le _
  · exact Nat.le_trans (QcG _ _) (QfH x last)
theorem QoE (x:Lg):(Qbg x).length<=64:=by
  unfold Qbg
  split
  · rw [QbZ]; exact Nat.le_refl _
  · exact Nat.zero_le _
theorem QkD {x:Lg} (hx:DLg x) (p:Int):∀ i,i<=x.es.length->0<=Qcl x.es p i/\Qcl x.es p i<=1000000000
  | 0,_=>by rw [Qcl]; omega
  | i + 1,h=>by
    have:=hx.lsn i h
    have ih:=QkD hx p i (by omega)
    rw [Qcl]
    split<;>omega
theorem QvJ {x:Lg} (hx:DLg x) (k:Nat) (hk:k < 64):0<=(Qbg x).getD k 0/\(Qbg x).getD k 0<=1000000000:=by
  rw [Qbg,if_pos hx.ok,List.getD_eq_getElem?_getD]
  simp only [QaS,List.getElem?_map,List.getElem?_range hk,Option.map_some,Option.getD_some]
  exact QkD hx _ _ (Nat.le_refl _)
structure JS7 (n:Nat) where
  i:Nat
  hi:i<=n
  c:C
theorem Qs6 (l:List UInt8) (hl:l.length<=9223372036854775807) (pg la ab:Int) (hla:la<=9223372036854775807):VCalls prog 6 [.pv (.sl (fz QeY l)),.int .i64 pg,.int .i64 la,.int .i64 ab] [] (Ret (.bool true)):=by
  refine dd Tryz.func6 ?_
  have c0:=Qtl
  (unfold Tryz.f6; refine rn trivial ?_)
  refine rn F ?_
  repeat' (first
    | with_reducible exact ⟨⟩
    | refine vp F (c0) ?_)
  refine QxQ (most:=300) (by omega) (by omega) hl fun c=>?_
  refine rn trivial ?_
  refine QH (k:=0) (c:=c) (QB6 c 24 (by omega)) rfl rfl ?_
  rintro _ c1 ⟨x,rfl,hx⟩
  have hxl:=hx.len
  refine rn F ?_
  repeat' (first
    | with_reducible exact ⟨⟩
    | (refine QbE (id:=5) [[],[],[],[1,2],[0,1,2,3],[0,1,2,3,4],[]] [0,1,2,6] [⟨[],[],3,[0,6],[]⟩,⟨[],[],4,[6],[5]⟩] (by kernel_rfl) (by kernel_rfl) (by kernel_rfl) ?_; refine rn F ?_))
  refine QH (k:=0) (Qvk c1 x hxl) rfl rfl ?_
  rintro _ c2 ⟨y,rfl,hyl⟩
  refine rn F ?_
  obtain ⟨ls,hL,h2,hle⟩:∃ ls:List Lg,([.int .i64 x.f,.pv (.sl (fz encE x.es)),.int .i64 x.d,.int .i64 y.f,.pv (.sl (fz encE y.es)),.int .i64 y.d]:List DV) = cells QoS ls/\ls.length = 2/\∀ t ∈ ls,t.es.length<=4096:=
    ⟨[x,y],rfl,rfl,by
      simp only [List.forall_mem_cons]
      exact ⟨hxl,hyl,fun _ h=>by cases h⟩⟩
  rw [hL]
  have hcl:(cells QoS ls).length = 6:=by rw [QS,h2]; rfl
  refine Qg (fun s:JS7 2=>⟨165,0,[(37,.int .i64 s.i),(36,.int .i64 2),(35,.own 2 3 0 2),(10,.ptr 1 0),(9,.ptr 0 0),(1,.int .i64 pg),(2,.int .i64 la),(3,.int .i64 ab)],[cb s.c,⟨25,true,x.c⟩,⟨25,true,cells QoS ls⟩]⟩) (fun s=>2 - s.i) ⟨0,Nat.zero_le _,c2⟩ (gc [0,1,2]) ?_
  rintro ⟨i,hi,c3⟩
  dsimp only
  by_cases hin:i < 2
  rotate_left
  · skip
    (refine rn F ?_; try with_reducible exact ⟨⟩)
  have hb:i * 3 + 3<=6:=by omega
  have hg:=QEB ls i (by omega)
  have hzl:(ls.getD i Lg0).es.length<=4096:=by rw [Qk ls i (by omega)]; exact hle _ (List.getElem_mem _)
  generalize ls.getD i Lg0 = w at *
  have r1:=Qwc w (by omega)
  have r2:=QmZ w (by omega)
  have r3:=Qq5 (Qbg w) (Nat.le_trans (QoE w) (by decide))
  have r4:=QmZ x (by omega)
  have hhl:(Qbg x).length = 64:=by rw [Qbg,if_pos hx.ok]; exact QbZ _ _
  have F:=(And.intro @hcl (And.intro @hb @hg))
  refine rn F ?_
  repeat' (first
    | with_reducible exact ⟨⟩
    | refine vp F (r1) ?_
    | refine vp F (r2) ?_
    | refine vp F (r3) ?_
    | refine vp F (r4) ?_
    | (refine Qb (id:=8) [0,2] [⟨[],[],1,[2],[]⟩,⟨[],[],3,[0],[]⟩,⟨[],[],4,[0,2],[5]⟩] (by kernel_rfl) (by kernel_rfl) ?_; refine rn F ?_))
  refine QH (k:=0) (c:=c3) (QP c3 4 (by omega) (by omega)) rfl rfl ?_
  rintro _ c4 ⟨p,rfl,hp⟩
  have hgp:=QX (Qbg x) p (by omega)
  have hh:=QvJ hx p (by omega)
  generalize (Qbg x).getD p 0 = hd at *
  have hf1:=(QB hx.ok).1
  have hf2:=hx.end_
  have F:=(And.intro @hgp @hhl)
  refine rn F ?_
  repeat' (first
    | with_reducible exact ⟨⟩
    | (refine QH (k:=0) (QP _ 20 (by omega) (by omega)) rfl rfl ?_; rintro _ _ ⟨_,rfl,_⟩; refine rn F ?_)
    | (refine QH (k:=0) (QP _ 30 (by omega) (by omega)) rfl rfl ?_; rintro _ _ ⟨_,rfl,_⟩; refine rn F ?_)
    | (refine QbE (id:=12) [[],[],[],[0,1,2],[],[],[],[5,6],[5,6,7],[4,5,6,7,8],[],[],[],[11,12],[11,12,13],[],[15],[10,11,12,13,14,15,16],[],[],[19],[],[15,16,21],[15,16,19,20,21,22],[],[15,16,21,22,24],[15,16,18,19,20,21,22,23,24,25],[0,1,2,3,4,5,6,7,8,9,10,11,12,13,14,15,16,17,18,19,20,21,22,23,24,25,26],[0,1,2,3,4,5,6,7,8,9,10,11,12,13,14,15,16,17,18,19,20,21,22,23,24,25,26,27],[]] [0,1,2,3,4,5,6,7,8,9,10,11,12,13,14,15,18,19,20,21,24,29] [⟨[],[],16,[0,1,2,3,4,5,6,7,8,9,10,11,12,13,14,18,19,20,21,24,29],[17]⟩,⟨[],[],22,[0,1,2,3,4,5,6,7,8,9,10,11,12,13,14,18,19,20,24,29,17],[23]⟩,⟨[],[],25,[0,1,2,3,4,5,6,7,8,9,10,11,12,13,14,18,19,20,29,17,23],[26]⟩,⟨[],[],27,[29],[28]⟩] (by kernel_rfl) (by kernel_rfl) (by kernel_rfl) ?_; refine rn F ?_))
  rename_i u1 hu1 c6 u2 hu2 c7 u3 hu3
  obtain ⟨zs,hZ,h4,hze⟩:∃ zs:List (Int × Int × Int),([.int .i64 pg,.int .i64 la,.int .i64 ab,.int .i64 (p:Int),.int .i64 hd,.int .i64 0,.int .i64 (p:Int),.int .i64 hd,.int .i64 (u1:Int),.int .i64 (p:Int),.int .i64 (x.f + u2),.int .i64 (u3:Int)]:List DV) = cells QB4 zs/\zs.length = 4/\∀ t ∈ zs,t.2.1<=9223372036854775807:=
    ⟨[(pg,la,ab),(p,hd,0),(p,hd,u1),(p,x.f + u2,u3)],rfl,rfl,by
      simp only [List.forall_mem_cons]
      exact ⟨hla,by omega,by omega,by omega,fun _ h=>by cases h⟩⟩
  rw [hZ]
  have hcz:(cells QB4 zs).length = 12:=by rw [QS,h4]; rfl
  refine Qg (fun s:To 4=>⟨165,0,[(80,.int .i64 s.i),(79,.int .i64 4),(78,.own 4 3 0 4),(12,.ptr 3 0),(37,.int .i64 i),(36,.int .i64 2),(35,.own 2 3 0 2),(10,.ptr 1 0),(9,.ptr 0 0),(1,.int .i64 pg),(2,.int .i64 la),(3,.int .i64 ab)],[cb c7,⟨25,true,x.c⟩,⟨25,true,cells QoS ls⟩,⟨25,true,w.c⟩,⟨69,true,cells QB4 zs⟩]⟩) (fun s=>4 - s.i) ⟨0,Nat.zero_le _⟩ (gc [0,1,2,3,4]) ?_
  rintro ⟨j,hj⟩
  dsimp only
  by_cases hjn:j < 4
  rotate_left
  · skip
    have F:=trivial
    refine rn F ?_
    exact ⟨⟨i + 1,by omega,c7⟩,by dsimp only; omega,(gc [0,1,2])⟩
  have hb2:j * 3 + 3<=12:=by omega
  have hg2:=elZ zs j (by omega)
  have hz1:(zs.getD j (0,0,0)).2.1<=9223372036854775807:=by rw [Qk zs j (by omega)]; exact hze _ (List.getElem_mem _)
  generalize zs.getD j (0,0,0) = z at *
  obtain ⟨z0,z1,z2⟩:=z
  dsimp only at hg2 hz1
  have q1:=QzT w (by omega) z0 z1 z2 hz1
  have q2:=QuI w (by omega) z0 z1 z2
  have hpl:=QrI w z0 z1 z2
  generalize Qgw w z0 z1 z2 = A at *
  obtain ⟨a1,a2⟩:=A
  have q3:=QmS a1 a1 (by dsimp only at hpl; omega)
  rw [QhU] at q3
  have q4:=QCa w (by omega) z1 hz1
  have q5:=QwG w (by omega) z1
  have q7:=QzS w (by omega) z1 hz1
  have q8:=Qys w (by omega) z1
  have hpd:=QrF w z1
  have htl:=QfH w z1
  generalize Qgu w z1 = D at *
  generalize Qfv w z1 = B at *
  obtain ⟨b1,b2⟩:=B
  obtain ⟨d1,d2⟩:=D
  have q6:=QmS b1 b1 (by dsimp only at htl; omega)
  rw [QhU] at q6
  have q9:=Qq5 d1 (by dsimp only at hpd; omega)
  dsimp only at q1 q2 q4 q5 q7 q8
  have F:=(And.intro @hcz (And.intro @hb2 @hg2))
  refine rn F ?_
  repeat' (first
    | with_reducible exact ⟨⟩
    | refine vp F (q1) ?_
    | refine vp F (q2) ?_
    | refine vp F (q3) ?_
    | refine vp F (q4) ?_
    | refine vp F (q5) ?_
    | refine vp F (q6) ?_
    | refine vp F (q7) ?_
    | refine vp F (q8) ?_
    | refine vp F (q9) ?_)
  exact ⟨⟨j + 1,by omega⟩,by dsimp only; omega,(gc [0,1,2,3,4])⟩
end
end Go.Proofs.YtepcgifhpjapkaaGreat


/-
  Contracts of functions and plain laws. No condition.
-/
import Derived.Test.YtepcgifhpjapkaaGreatP1
import Derived.Test.YtepcgifhpjapkaaGreatV3
import Derived.Test.YtepcgifhpjapkaaGreatV4
set_option linter.unusedSimpArgs false
set_option linter.unusedVariables false
set_option maxRecDepth 100000
set_option maxHeartbeats 8000000
namespace Go.Proofs.YtepcgifhpjapkaaGreat
open Go.V Go
open Tryz (prog)
attribute [go_sem] QAE QAv QAu QhF
@[go_sem] def ilD (l:List Int):DV:=.pv (.sl (fz QN l))
theorem QlJ (l:List Int) (hl:l.length<=100000) (n:Int):VCalls prog 203 [.pv (.sl (fz QN l)),.int .i64 n] [] (QC ilD fun m=>m.length<=l.length + 1):=by
  refine dd Tryz.func203 ?_
  (unfold Tryz.f203; refine rn trivial ?_)
  refine VLoop.nilOwn 5 3 1 rfl ?_
  refine rn trivial ?_
  refine Qg (fun s:{s:Nat × List Int × Bool // s.1<=l.length/\s.2.1.length<=s.1 + 1/\(s.2.2 = false->s.2.1.length<=s.1)}=>⟨48,0,[(7,.int .i64 s.1.1),(6,.bool s.1.2.2),(5,.own 0 1 0 s.1.2.1.length),(1,.int .i64 n),(0,.pv (.sl (fz QN l)))],[⟨3,true,cells QN s.1.2.1⟩]⟩) (fun s=>l.length - s.1.1) ⟨(0,[],false),by simp⟩ (gc [0]) ?_
  rintro ⟨⟨i,out,dn⟩,hi,ho,hd⟩
  dsimp only at hi ho hd |-
  have hg:=fun h:i < l.length=>QX l i h
  have hb:(out.length + 1) * 8<=140737488355328:=Nat.le_trans (Nat.mul_le_mul_right 8 (show out.length + 1<=100003 by omega)) (by decide)
  have hb2:(out.length + 1 + 1) * 8<=140737488355328:=Nat.le_trans (Nat.mul_le_mul_right 8 (show out.length + 1 + 1<=100003 by omega)) (by decide)
  cases dn
  all_goals
    simp only [forall_const,reduceCtorEq,false_implies] at hd
    have F:=(And.intro @hg (And.intro @hb @hb2))
    refine rn F ?_
    repeat' (first
      | with_reducible exact ⟨⟩
      | (refine sB F ?_ ?_<;>intro hZ))
  all_goals first
    | exact ⟨rfl,rfl,out,rfl,by omega⟩
    | exact ⟨rfl,rfl,out ++ [n],rfl,by simp; omega⟩
    | exact ⟨⟨(i + 1,out,false),by dsimp only; omega,by dsimp only; (try rw [List.length_nil]); omega,by dsimp only; (try rw [List.length_nil]); first | omega | (intro h; omega) | (intro h; cases h)⟩,by dsimp only; omega,by dsimp only; (try rw [List.length_nil]); exact (gc [0])⟩
    | exact ⟨⟨(i + 1,out ++ [l.getD i 0],false),by dsimp only; omega,by dsimp only; (try rw [List.length_append,List.length_cons,List.length_nil]); omega,by dsimp only; (try rw [List.length_append,List.length_cons,List.length_nil]); first | omega | (intro h; omega) | (intro h; cases h)⟩,by dsimp only; omega,by dsimp only; (try rw [List.length_append,List.length_cons,List.length_nil]); exact (gc [2])⟩
    | exact ⟨⟨(i + 1,out,true),by dsimp only; omega,by dsimp only; (try rw [List.length_nil]); omega,by dsimp only; (try rw [List.length_nil]); first | omega | (intro h; omega) | (intro h; cases h)⟩,by dsimp only; omega,by dsimp only; (try rw [List.length_nil]); exact (gc [0])⟩
    | exact ⟨⟨(i + 1,out ++ [l.getD i 0],true),by dsimp only; omega,by dsimp only; (try rw [List.length_append,List.length_cons,List.length_nil]); omega,by dsimp only; (try rw [List.length_append,List.length_cons,List.length_nil]); first | omega | (intro h; omega) | (intro h; cases h)⟩,by dsimp only; omega,by dsimp only; (try rw [List.length_append,List.length_cons,List.length_nil]); exact (gc [2])⟩
    | exact ⟨⟨(i + 1,out ++ [n],true),by dsimp only; omega,by dsimp only; (try rw [List.length_append,List.length_cons,List.length_nil]); omega,by dsimp only; (try rw [List.length_append,List.length_cons,List.length_nil]); first | omega | (intro h; omega) | (intro h; cases h)⟩,by dsimp only; omega,by dsimp only; (try rw [List.length_append,List.length_cons,List.length_nil]); exact (gc [2])⟩
    | exact ⟨⟨(i + 1,out ++ [n] ++ [l.getD i 0],true),by dsimp only; omega,by dsimp only; (try rw [List.length_append,List.length_append,List.length_cons,List.length_nil,List.length_cons,List.length_nil]); omega,by dsimp only; (try rw [List.length_append,List.length_append,List.length_cons,List.length_nil,List.length_cons,List.length_nil]); first | omega | (intro h; omega) | (intro h; cases h)⟩,by dsimp only; omega,by dsimp only; (try rw [List.length_append,List.length_append,List.length_cons,List.length_nil,List.length_cons,List.length_nil]); exact (gc [4])⟩
    | skip
theorem Qoe (t:Lk) (hs:t.sum<=5000):VCalls prog 242 [.agg t.d] [] (QC ilD fun m=>m.length<=t.sum):=by
  refine dk Tryz.func242 ?_
  have c1:=QaU t (by omega)
  unfold Lk.sum at *
  obtain ⟨l,w⟩:=t
  dsimp only at hs c1 |-
  (unfold Tryz.f242; refine rn trivial ?_)
  refine rn F ?_
  repeat' (first
    | with_reducible exact ⟨⟩
    | (refine sB F ?_ ?_<;>intro hZ)
    | (refine Qj (c1) rfl ?_; rintro b -; refine rn F ?_))
  all_goals first
    | exact ⟨rfl,rfl,[],rfl,by simp⟩
    | skip
  refine VLoop.wkS ?_
  refine rn trivial ?_
  refine Qg (fun s:{s:Nat × List Int // s.1<=w.length/\s.2.length<=s.1}=>⟨23,0,[(4,.int .i64 s.1.1),(3,.pv (.sl (fz QN s.1.2))),(1,.ptr 0 0)],[⟨34,true,[.pv (.sl (fz Qao l)),.pv (.sl (fz Qao w))]⟩]⟩) (fun s=>w.length - s.1.1) ⟨(0,[]),by simp⟩ (gc [0]) ?_
  rintro ⟨⟨i,out⟩,hi,ho⟩
  dsimp only at hi ho |-
  have hg:=fun h:i < w.length=>Qaw w i h
  have c2:=QlJ out (by omega)
  have F:=@hg
  refine rn F ?_
  repeat' (first
    | with_reducible exact ⟨⟩
    | (refine sB F ?_ ?_<;>intro hZ)
    | (refine Qj (c2 _) rfl ?_; rintro m hm; refine rn F ?_))
  all_goals first
    | exact ⟨⟨(i + 1,m),by dsimp only; omega,by dsimp only; omega⟩,by dsimp only; omega,(gc [0])⟩
    | exact ⟨rfl,rfl,out,rfl,by omega⟩
    | skip
theorem Qm1 (t:Lk) (hs:t.sum<=5000) (tx:Int):VCalls prog 152 [.agg t.d,.int .i64 tx] [] (QC ilD fun m=>m.length<=t.sum):=by
  refine dk Tryz.func152 ?_
  have c1:=Qc6 t (by omega) tx
  unfold Lk.sum at *
  obtain ⟨l,w⟩:=t
  dsimp only at hs c1 |-
  (unfold Tryz.f152; refine rn trivial ?_)
  refine rn F ?_
  repeat' (first
    | with_reducible exact ⟨⟩
    | (refine sB F ?_ ?_<;>intro hZ)
    | (refine Qj (c1) rfl ?_; rintro ⟨g,b⟩ -; refine rn F ?_))
  all_goals first
    | exact ⟨rfl,rfl,[],rfl,by simp⟩
    | skip
  refine VLoop.wkS ?_
  refine rn trivial ?_
  refine Qg (fun s:{s:Nat × List Int // s.1<=l.length/\s.2.length<=s.1}=>⟨73,0,[(8,.int .i64 s.1.1),(7,.pv (.sl (fz QN s.1.2))),(5,.ptr 1 0),(2,.ptr 0 0),(1,.int .i64 tx)],[⟨34,true,[.pv (.sl (fz Qao l)),.pv (.sl (fz Qao w))]⟩,⟨222,true,g.d⟩]⟩) (fun s=>l.length - s.1.1) ⟨(0,[]),by simp⟩ (gc [0,1]) ?_
  rintro ⟨⟨i,out⟩,hi,ho⟩
  dsimp only at hi ho |-
  have hg:=fun h:i < l.length=>Qaw l i h
  have c2:=QlJ out (by omega)
  have c3:=QfO (l.getD i Gr0) g
  have F:=@hg
  refine rn F ?_
  repeat' (first
    | with_reducible exact ⟨⟩
    | (refine sB F ?_ ?_<;>intro hZ)
    | refine vp F (c3) ?_
    | (refine Qj (c2 _) rfl ?_; rintro m hm; refine rn F ?_)
    | (refine Qb (id:=8) [0,1,2,3,4,5] [⟨[],[],6,[0,1,2,3],[]⟩] (by kernel_rfl) (by kernel_rfl) ?_; refine rn F ?_))
  all_goals first
    | exact ⟨⟨(i + 1,m),by dsimp only; omega,by dsimp only; omega⟩,by dsimp only; omega,(gc [0,1])⟩
    | exact ⟨⟨(i + 1,out),by dsimp only; omega,by dsimp only; omega⟩,by dsimp only; omega,(gc [0,1])⟩
    | skip
  clear c2 c3 hg
  refine Qg (fun s:{s:Nat × List Int // s.1<=w.length/\s.2.length<=l.length + s.1}=>⟨73,0,[(9,.int .i64 s.1.1),(7,.pv (.sl (fz QN s.1.2))),(5,.ptr 1 0),(2,.ptr 0 0),(1,.int .i64 tx)],[⟨34,true,[.pv (.sl (fz Qao l)),.pv (.sl (fz Qao w))]⟩,⟨222,true,g.d⟩]⟩) (fun s=>w.length - s.1.1) ⟨(0,out),by dsimp only; omega⟩ (gc [0,1]) ?_
  rintro ⟨⟨j,o2⟩,hj,ho2⟩
  dsimp only at hj ho2 |-
  have hg:=fun h:j < w.length=>Qaw w j h
  have c2:=QlJ o2 (by omega)
  have c3:=QfO (w.getD j Gr0) g
  have F:=@hg
  refine rn F ?_
  repeat' (first
    | with_reducible exact ⟨⟩
    | (refine sG F ?_ ?_<;>intro hZ)
    | (refine sB F ?_ ?_<;>intro hZ)
    | refine vp F (c3) ?_
    | (refine Qj (c2 _) rfl ?_; rintro m hm; refine rn F ?_)
    | (refine Qb (id:=13) [0,1,2,3,4,5] [⟨[],[],6,[0,1,2,3],[]⟩] (by kernel_rfl) (by kernel_rfl) ?_; refine rn F ?_))
  all_goals first
    | exact ⟨⟨(j + 1,m),by dsimp only; omega,by dsimp only; omega⟩,by dsimp only; omega,(gc [0,1])⟩
    | exact ⟨⟨(j + 1,o2),by dsimp only; omega,by dsimp only; omega⟩,by dsimp only; omega,(gc [0,1])⟩
    | exact ⟨rfl,rfl,o2,rfl,by omega⟩
    | skip
theorem QuV (l:List Int):VCalls prog 244 [.pv (.sl (fz QN l))] [] (QC (fun n:Int=>.int .i64 n) fun _=>True):=by
  refine dd Tryz.func244 ?_
  have hg:=fun h:0 < l.length=>QX l 0 h
  (unfold Tryz.f244; refine rn trivial ?_)
  have F:=@hg
  refine rn F ?_
  repeat' (first
    | with_reducible exact ⟨⟩
    | (refine sB F ?_ ?_<;>intro hZ))
  all_goals first
    | exact ⟨rfl,rfl,_,rfl,trivial⟩
    | skip
theorem Qrm (t:Lk) (hs:t.sum<=5000) (n:Nat) (hn:n<=5000):∀ (k:Nat) (way:List Int),0 < way.length->way.length + k = n->VCalls prog 243 [.agg t.d,.pv (.sl (fz QN way)),.int .i64 n] [] (QC ilD fun m=>m.length<=5000):=by
  intro k
  induction k with
  | zero =>
    intro way h0 hk
    refine dk Tryz.func243 ?_
    have c1:=Qm1 t hs
    have hg:=QX way (way.length - 1) (by omega)
    have hg0:=QX way 0 h0
    obtain rfl:n = way.length:=by omega
    (unfold Tryz.f243; refine rn trivial ?_)
    have F:=@hg
    refine rn F ?_
    repeat' (first
      | with_reducible exact ⟨⟩
      | (refine Qj (c1 _) rfl ?_; rintro m hm; refine rn F ?_)
      | (refine Qb (id:=1) [0,1,2,3,4,5,6] [⟨[],[],7,[1,2,3,4,5],[]⟩,⟨[],[],8,[],[]⟩] (by kernel_rfl) (by kernel_rfl) ?_; refine rn F ?_))
    refine Qg (fun s:To m.length=>⟨74,0,[(30,.int .i64 s.i),(29,.int .i64 m.length),(28,.pv (.sl (fz QN m))),(1,.pv (.sl (fz QN way)))],[]⟩) (fun s=>m.length - s.i) ⟨0,Nat.zero_le _⟩ (gc []) ?_
    rintro ⟨i,hi⟩
    dsimp only
    have hx:=fun h:i < m.length=>QX m i h
    have F:=(And.intro @hx @hg0)
    refine rn F ?_
    repeat' (first
      | with_reducible exact ⟨⟩
      | (refine sB F ?_ ?_<;>intro hZ))
    all_goals first
      | exact ⟨⟨i + 1,by omega⟩,by dsimp only; omega,(gc [])⟩
      | exact ⟨rfl,rfl,way,rfl,by omega⟩
      | exact ⟨rfl,rfl,[],rfl,by simp⟩
      | skip
  | succ k ih =>
    intro way h0 hk
    refine dk Tryz.func243 ?_
    have c1:=Qm1 t hs
    have hg:=QX way (way.length - 1) (by omega)
    obtain rfl:n = way.length + (k + 1):=by omega
    have hne:¬ (way.length:Int) = ((way.length + (k + 1):Nat):Int):=by omega
    (unfold Tryz.f243; refine rn trivial ?_)
    have F:=(And.intro @hg @hne)
    refine rn F ?_
    repeat' (first
      | with_reducible exact ⟨⟩
      | (refine Qj (c1 _) rfl ?_; rintro m hm; refine rn F ?_)
      | (refine Qb (id:=1) [0,1,2,3,4,5,6] [⟨[],[],7,[1,2,3,4,5],[]⟩,⟨[],[],8,[],[]⟩] (by kernel_rfl) (by kernel_rfl) ?_; refine rn F ?_))
    refine Qg (fun s:To m.length=>⟨74,0,[(43,.int .i64 s.i),(42,.int .i64 m.length),(41,.pv (.sl (fz QN m))),(3,.ptr 0 0),(2,.int .i64 (way.length + (k + 1):Nat)),(1,.pv (.sl (fz QN way)))],[⟨34,true,t.d⟩]⟩) (fun s=>m.length - s.i) ⟨0,Nat.zero_le _⟩ (gc [0]) ?_
    rintro ⟨i,hi⟩
    dsimp only
    have hx:=fun h:i < m.length=>QX m i h
    have F:=@hx
    refine rn F ?_
    repeat' (first
      | with_reducible exact ⟨⟩
      | (refine sB F ?_ ?_<;>intro hZ))
    rotate_left
    · exact ⟨rfl,rfl,[],rfl,by simp⟩
    generalize hv:m.getD i 0 = v at *
    refine Qg (fun s:{s:Nat × Bool // s.1<=way.length}=>⟨74,0,[(49,.int .i64 s.1.1),(48,.int .i64 way.length),(47,.pv (.sl (fz QN way))),(43,.int .i64 i),(42,.int .i64 m.length),(41,.pv (.sl (fz QN m))),(12,.bool s.1.2),(11,.int .i64 v),(3,.ptr 0 0),(2,.int .i64 (way.length + (k + 1):Nat)),(1,.pv (.sl (fz QN way)))],[⟨34,true,t.d⟩]⟩) (fun s=>way.length - s.1.1) ⟨(0,false),Nat.zero_le _⟩ (gc [0]) ?_
    rintro ⟨⟨j,sn⟩,hj⟩
    dsimp only at hj |-
    have hy:=fun h:j < way.length=>QX way j h
    have hb:(way.length + 1) * 8<=140737488355328:=Nat.le_trans (Nat.mul_le_mul_right 8 (show way.length + 1<=100003 by omega)) (by decide)
    have hb2:way.length * 8<=140737488355328:=Nat.le_trans (Nat.mul_le_mul_right 8 (show way.length<=100003 by omega)) (by decide)
    have ih2:=ih (way ++ [v]) (by simp) (by simp; omega)
    have F:=(And.intro @hy (And.intro @hb @hb2))
    refine rn F ?_
    repeat' (first
      | with_reducible exact ⟨⟩
      | (refine sG F ?_ ?_<;>intro hZ)
      | (refine sB F ?_ ?_<;>intro hZ)
      | (refine QiB [3] _ _ (ih2) rfl ⟨⟨by simp,Qq _ _ _⟩,trivial⟩ (by decide) rfl (by simp [DV.nums.go,DV.nums]) ?_ ?_; (focus (refine rd F)); rintro m2 hm2; refine rn F ?_)
      | (refine Qb (id:=20) [0,1,3,6] [⟨[4],[],2,[0,3,6],[]⟩,⟨[4],[4],5,[0,1,3,6],[]⟩,⟨[],[],7,[1,3],[]⟩,⟨[],[],8,[],[]⟩] (by kernel_rfl) (by kernel_rfl) ?_; refine rn F ?_))
    all_goals first
      | exact ⟨⟨(j + 1,v == way.getD j 0),by dsimp only; omega⟩,by dsimp only; omega,(gc [0])⟩
      | exact ⟨⟨(j + 1,true),by dsimp only; omega⟩,by dsimp only; omega,(gc [0])⟩
      | exact ⟨⟨i + 1,by omega⟩,by dsimp only; omega,(gc [0])⟩
      | exact ⟨rfl,rfl,m2,rfl,hm2⟩
      | skip
theorem QuZ (t:Lk) (hs:t.sum<=5000) (tx:Int):VCalls prog 200 [.agg t.d,.int .i64 tx] [] (QC ilD fun m=>m.length<=5000):=by
  refine dk Tryz.func200 ?_
  have c1:=Qoe t hs
  (unfold Tryz.f200; refine rn trivial ?_)
  refine Qg (fun s:{s:Nat // 1<=s/\s<=t.sum + 1}=>⟨23,0,[(5,.int .i64 s.1),(2,.ptr 0 0),(1,.int .i64 tx)],[⟨34,true,t.d⟩]⟩) (fun s=>t.sum + 1 - s.1) ⟨1,by omega⟩ (gc [0]) ?_
  rintro ⟨i,hi⟩
  dsimp only
  have c2:=fun (h:i<=5000)=>Qrm t hs i h (i - 1) [tx] (by simp) (by simp; omega)
  refine rn F ?_
  repeat' (first
    | with_reducible exact ⟨⟩
    | (refine sB F ?_ ?_<;>intro hZ)
    | (refine Qj (c1) rfl ?_; rintro m hm; refine rn F ?_))
  · rw [show ([.pv (.lit (.int .i64 tx))]:List DV) = cells QN [tx] from rfl]
    refine QiB [1] _ _ (c2 (by omega)) rfl ⟨⟨by simp,Qq _ _ _⟩,trivial⟩ (by decide) rfl (by simp [DV.nums.go,DV.nums]) ?_ ?_
    · (refine rn trivial ?_; try with_reducible exact ⟨⟩)
    intro m2 hm2
    refine rn F ?_
    repeat' (first
      | with_reducible exact ⟨⟩
      | (refine sB F ?_ ?_<;>intro hZ))
    · exact ⟨rfl,rfl,m2,rfl,hm2⟩
    · exact ⟨⟨i + 1,by omega⟩,by dsimp only; omega,(gc [0])⟩
  · exact ⟨rfl,rfl,[],rfl,by simp⟩
def QcL (x:Lg):Int:=if lgB x = true then x.end_ else 0
theorem Qea (x:Lg) (hx:x.es.length<=9223372036854775807):VCalls prog 13 [.agg x.c] [] (Ret (.int .i64 (QcL x))):=by
  refine dd Tryz.func13 ?_
  have c1:=QV x hx
  have c2:=QeN x
  have hh:=@QB x
  simp only [Lg.hd] at hh
  unfold QcL
  generalize lgB x = b at *
  cases b
  · (unfold Tryz.f13; refine rn trivial ?_; try with_reducible exact ⟨⟩)
    refine rn F ?_
    repeat' (first
      | with_reducible exact ⟨⟩
      | refine vp F (c1) ?_)
    all_goals rfl
  · replace hh:=hh rfl
    (unfold Tryz.f13; refine rn trivial ?_)
    refine rn F ?_
    repeat' (first
      | with_reducible exact ⟨⟩
      | refine vp F (c1) ?_
      | refine vp F (c2 (by omega) (by omega)) ?_)
    all_goals rfl
theorem Qrq (x:Lg) (hx:x.es.length<=9223372036854775807) (e:E):VCalls prog 169 [.agg x.c,.agg e.d] [] (Ret (QCn (QdV x e))):=by
  refine dk Tryz.func169 ?_
  have c1:=QV x hx
  have c2:=QeN x
  have c3:=Qca { e with lsn:=x.end_ + 1 }
  have hh:=@QB x
  have he:=@QrY x
  simp only [Lg.hd] at hh
  have e0:QdV x e = if lgB x = false then (Lg0,0,26) else if x.es.length = 4096\/1099511627776 < x.end_ + 1 then (Lg0,0,21)
    else if ({ e with lsn:=x.end_ + 1 }:E).okB = false then (Lg0,0,12) else (⟨x.f,x.es ++ [{ e with lsn:=x.end_ + 1 }],x.d⟩,x.end_ + 1,0):=rfl
  unfold QCn
  generalize QdV x e = r at *
  generalize lgB x = b at *
  obtain ⟨lsn,kind,tx,ptx,ppg,ref,c,blob⟩:=e
  dsimp only at c3 e0 |-
  cases b
  · (unfold Tryz.f169; refine rn trivial ?_; try with_reducible exact ⟨⟩)
    refine rn F ?_
    repeat' (first
      | with_reducible exact ⟨⟩
      | refine vp F (c1) ?_)
    all_goals (first | (rw [e0]; simp (disch:=first | assumption | omega | exact rfl | exact nf (by assumption) | exact nt (by assumption) | decide | fail) only [if_pos,if_neg]; first | done | rfl) | (rw [e0]; simp (disch:=first | assumption | omega | exact rfl | exact nf (by assumption) | exact nt (by assumption) | decide | (simp_all; done) | fail) only [if_pos,if_neg]; first | done | rfl))
  · replace hh:=hh rfl
    replace he:=he rfl
    have hdef:x.end_ = x.f + x.es.length - 1:=rfl
    have hl:=QcW x.es ⟨x.end_ + 1,kind,tx,ptx,ppg,ref,c,blob⟩
    dsimp only at hl
    have hb:(x.es.length + 1) * 128<=140737488355328:=by omega
    generalize (⟨x.end_ + 1,kind,tx,ptx,ppg,ref,c,blob⟩:E).okB = ok at *
    generalize x.end_ = en at *
    (unfold Tryz.f169; refine rn trivial ?_)
    have F:=(And.intro @hb @hl)
    refine rn F ?_
    repeat' (first
      | with_reducible exact ⟨⟩
      | (refine sG F ?_ ?_<;>intro hZ)
      | (refine sB F ?_ ?_<;>intro hZ)
      | refine vp F (c1) ?_
      | refine vp F (c2 (by omega) (by omega)) ?_
      | refine vp F (c3) ?_
      | (refine Qb (id:=8) [0,1,3] [⟨[4],[],2,[0,3],[]⟩,⟨[4],[4],5,[0,1,3],[6]⟩,⟨[],[],7,[],[]⟩] (by kernel_rfl) (by kernel_rfl) ?_; refine rn F ?_)
      | (refine Qb (id:=9) [0,1,2] [⟨[],[],3,[1,2],[]⟩,⟨[],[],4,[],[]⟩,⟨[],[],5,[],[]⟩] (by kernel_rfl) (by kernel_rfl) ?_; refine rn F ?_))
    all_goals first | (first | (rw [e0]; simp (disch:=first | assumption | omega | exact rfl | exact nf (by assumption) | exact nt (by assumption) | decide | fail) only [if_pos,if_neg]; first | done | rfl) | (rw [e0]; simp (disch:=first | assumption | omega | exact rfl | exact nf (by assumption) | exact nt (by assumption) | decide | (simp_all; done) | fail) only [if_pos,if_neg]; first | done | rfl)) | skip
theorem QfL (x:Lg) (hx:x.es.length<=9223372036854775807) (n:Int):VCalls prog 14 [.agg x.c,.int .i64 n] [] (Ret (lgD (Q9 x n))):=by
  refine dk Tryz.func14 ?_
  have c1:=QV x hx
  have c2:=QeN x
  have hh:=@QB x
  simp only [Lg.hd] at hh
  have e0:Q9 x n = if lgB x = false then (Lg0,26) else if x.end_ < n then (Lg0,14) else (⟨x.f,x.es,if n > x.d then n else x.d⟩,0):=rfl
  unfold lgD
  generalize Q9 x n = r at *
  generalize lgB x = b at *
  cases b
  · (unfold Tryz.f14; refine rn trivial ?_; try with_reducible exact ⟨⟩)
    refine rn F ?_
    repeat' (first
      | with_reducible exact ⟨⟩
      | refine vp F (c1) ?_)
    all_goals (first | (rw [e0]; simp (disch:=first | assumption | omega | exact rfl | exact nf (by assumption) | exact nt (by assumption) | decide | fail) only [if_pos,if_neg]; first | done | rfl) | (rw [e0]; simp (disch:=first | assumption | omega | exact rfl | exact nf (by assumption) | exact nt (by assumption) | decide | (simp_all; done) | fail) only [if_pos,if_neg]; first | done | rfl))
  · replace hh:=hh rfl
    (unfold Tryz.f14; refine rn trivial ?_)
    refine rn F ?_
    repeat' (first
      | with_reducible exact ⟨⟩
      | (refine sB F ?_ ?_<;>intro hZ)
      | refine vp F (c1) ?_
      | refine vp F (c2 (by omega) (by omega)) ?_)
    all_goals first | (first | (rw [e0]; simp (disch:=first | assumption | omega | exact rfl | exact nf (by assumption) | exact nt (by assumption) | decide | fail) only [if_pos,if_neg]; first | done | rfl) | (rw [e0]; simp (disch:=first | assumption | omega | exact rfl | exact nf (by assumption) | exact nt (by assumption) | decide | (simp_all; done) | fail) only [if_pos,if_neg]; first | done | rfl)) | skip
def QdU (x:Lg) (n:Int):E × Int:=if lgB x = false then (E0,26) else if n < x.f\/x.end_ < n then (E0,14) else (x.es.getD (n - x.f).toNat E0,0)
theorem Qe8 (x:Lg) (hx:x.es.length<=9223372036854775807) (n:Int):VCalls prog 49 [.agg x.c,.int .i64 n] [] (Ret (.tup [.agg (QdU x n).1.d,.int .i64 (QdU x n).2])):=by
  refine dk Tryz.func49 ?_
  have c1:=QV x hx
  have c2:=QeN x
  have hh:=@QB x
  simp only [Lg.hd] at hh
  have e0:QdU x n = if lgB x = false then (E0,26) else if n < x.f\/x.end_ < n then (E0,14) else (x.es.getD (n - x.f).toNat E0,0):=rfl
  generalize QdU x n = r at *
  generalize lgB x = b at *
  cases b
  · (unfold Tryz.f49; refine rn trivial ?_; try with_reducible exact ⟨⟩)
    refine rn F ?_
    repeat' (first
      | with_reducible exact ⟨⟩
      | refine vp F (c1) ?_)
    all_goals (first | (rw [e0]; simp (disch:=first | assumption | omega | exact rfl | exact nf (by assumption) | exact nt (by assumption) | decide | fail) only [if_pos,if_neg]; first | done | rfl) | (rw [e0]; simp (disch:=first | assumption | omega | exact rfl | exact nf (by assumption) | exact nt (by assumption) | decide | (simp_all; done) | fail) only [if_pos,if_neg]; first | done | rfl))
  · replace hh:=hh rfl
    have hdef:x.end_ = x.f + x.es.length - 1:=rfl
    generalize x.end_ = en at *
    have hg:=fun h:(n - x.f).toNat < x.es.length=>QeV x.es (n - x.f).toNat h
    (unfold Tryz.f49; refine rn trivial ?_)
    have F:=@hg
    refine rn F ?_
    repeat' (first
      | with_reducible exact ⟨⟩
      | (refine sG F ?_ ?_<;>intro hZ)
      | (refine sB F ?_ ?_<;>intro hZ)
      | refine vp F (c1) ?_
      | refine vp F (c2 (by omega) (by omega)) ?_)
    all_goals first | (first | (rw [e0]; simp (disch:=first | assumption | omega | exact rfl | exact nf (by assumption) | exact nt (by assumption) | decide | fail) only [if_pos,if_neg]; first | done | rfl) | (rw [e0]; simp (disch:=first | assumption | omega | exact rfl | exact nf (by assumption) | exact nt (by assumption) | decide | (simp_all; done) | fail) only [if_pos,if_neg]; first | done | rfl)) | skip
theorem QBx (x:Lg) (hx:x.es.length<=9223372036854775807) (n:Int):VCalls prog 48 [.agg x.c,.int .i64 n] [] (Ret (lgD (QAB x n))):=by
  refine dk Tryz.func48 ?_
  have c1:=QV x hx
  have c2:=QeN x
  have hh:=@QB x
  simp only [Lg.hd] at hh
  have e0:QAB x n = if lgB x = false then (Lg0,26) else if n < x.f\/x.end_ + 1 < n\/1099511627776 < n then (Lg0,1) else if x.d < n - 1 then (Lg0,15) else (⟨n,x.es.drop (n - x.f).toNat,x.d⟩,0):=rfl
  unfold lgD
  generalize QAB x n = r at *
  generalize lgB x = b at *
  cases b
  · (unfold Tryz.f48; refine rn trivial ?_; try with_reducible exact ⟨⟩)
    refine rn F ?_
    repeat' (first
      | with_reducible exact ⟨⟩
      | refine vp F (c1) ?_)
    all_goals (first | (rw [e0]; simp (disch:=first | assumption | omega | exact rfl | exact nf (by assumption) | exact nt (by assumption) | decide | fail) only [if_pos,if_neg]; first | done | rfl) | (rw [e0]; simp (disch:=first | assumption | omega | exact rfl | exact nf (by assumption) | exact nt (by assumption) | decide | (simp_all; done) | fail) only [if_pos,if_neg]; first | done | rfl))
  · replace hh:=hh rfl
    have hdef:x.end_ = x.f + x.es.length - 1:=rfl
    generalize x.end_ = en at *
    have hb:(x.es.length - (n - x.f).toNat) * 128<=140737488355328:=by omega
    (unfold Tryz.f48; refine rn trivial ?_)
    have F:=@hb
    refine rn F ?_
    repeat' (first
      | with_reducible exact ⟨⟩
      | (refine sG F ?_ ?_<;>intro hZ)
      | (refine sB F ?_ ?_<;>intro hZ)
      | refine vp F (c1) ?_
      | refine vp F (c2 (by omega) (by omega)) ?_)
    all_goals first | (first | (rw [e0]; simp (disch:=first | assumption | omega | exact rfl | exact nf (by assumption) | exact nt (by assumption) | decide | fail) only [if_pos,if_neg]; first | done | rfl) | (rw [e0]; simp (disch:=first | assumption | omega | exact rfl | exact nf (by assumption) | exact nt (by assumption) | decide | (simp_all; done) | fail) only [if_pos,if_neg]; first | done | rfl)) | skip
def QrU (n:Int):Bool:=decide (0<=n) && decide (n<=1099511627776)
theorem QqX (n:Int):VCalls prog 225 [.int .i64 n] [] (Ret (.bool (QrU n))):=by
  refine dd Tryz.func225 ?_
  (unfold Tryz.f225; refine rn trivial ?_)
  refine rn F ?_
  repeat' (first
    | with_reducible exact ⟨⟩
    | (refine sG F ?_ ?_<;>intro hZ))
  all_goals (first | rfl | (congr 3; rw [Bool.eq_iff_iff]; (try simp only [QrU,decide_eq_true_eq,Bool.and_eq_true,Bool.or_eq_true,Bool.not_eq_true',Bool.not_eq_false',decide_eq_false_iff_not,beq_iff_eq,bne_iff_ne,ne_eq,Bool.false_eq_true,Bool.true_eq_false,iff_true,true_iff,iff_false,false_iff]); first | done | omega | grind))
def QBh (l:List Rw) (i:Nat):Bool:=QrU (l.getD i Rw0).lsn && QrU (l.getD i Rw0).im && QrU (l.getD i Rw0).at_ && !(decide ((l.getD i Rw0).im = 0) && !decide ((l.getD i Rw0).at_ = 0))
def ixB (l:List Rw):Bool:=decide (1<=l.length) && decide (l.length<=64) && (List.range l.length).all (QBh l)
theorem Qr5 {l:List Rw} (h:ixB l = true):1<=l.length/\l.length<=64:=by
  unfold ixB at h; simp only [Bool.and_eq_true,decide_eq_true_eq] at h; exact h.1
theorem QaV (l:List Rw) (hl:l.length<=1000000):VCalls prog 178 [.agg [.pv (.sl (fz QbN l))]] [] (Ret (.bool (ixB l))):=by
  refine dd Tryz.func178 ?_
  have hB:ixB l = (decide (1<=l.length) && decide (l.length<=64) && (List.range l.length).all (QBh l)):=rfl
  have hB':1<=l.length->l.length<=64->ixB l = (List.range l.length).all (QBh l):=fun h h2=>by rw [hB,decide_eq_true h,decide_eq_true h2,Bool.true_and,Bool.true_and]
  have no:¬ (1<=l.length/\l.length<=64)->ixB l = false:=fun h=>by
    rw [hB]
    by_cases h1:1<=l.length
    · rw [decide_eq_false (show ¬ l.length<=64 from fun h2=>h ⟨h1,h2⟩)]; simp
    · rw [decide_eq_false h1]; rfl
  generalize ixB l = b at *
  (unfold Tryz.f178; refine rn trivial ?_)
  refine rn F ?_
  repeat' (first
    | with_reducible exact ⟨⟩
    | (refine sG F ?_ ?_<;>intro hZ)
    | (refine sB F ?_ ?_<;>intro hZ))
  all_goals first | (rw [no (by omega)]) | skip
  refine Qg (fun s:Okay l.length (QBh l)=>⟨53,0,[(3,.int .i64 s.i),(1,.ptr 0 0)],[⟨38,true,[.pv (.sl (fz QbN l))]⟩]⟩) (fun s=>l.length - s.i) (Okay.start _ _) (gc [0]) ?_
  intro s
  have hsi:=s.hi
  have hg:=fun h:s.i < l.length=>QkN l s.i h
  have e:QBh l s.i = (QrU (l.getD s.i Rw0).lsn && QrU (l.getD s.i Rw0).im && QrU (l.getD s.i Rw0).at_ && !(decide ((l.getD s.i Rw0).im = 0) && !decide ((l.getD s.i Rw0).at_ = 0))):=rfl
  have c1:=QqX (l.getD s.i Rw0).lsn
  have c2:=QqX (l.getD s.i Rw0).im
  have c3:=QqX (l.getD s.i Rw0).at_
  generalize QrU (l.getD s.i Rw0).lsn = b1 at *
  generalize QrU (l.getD s.i Rw0).im = b2 at *
  generalize QrU (l.getD s.i Rw0).at_ = b3 at *
  have F:=@hg
  refine rn F ?_
  repeat' (first
    | with_reducible exact ⟨⟩
    | (refine sG F ?_ ?_<;>intro hZ)
    | (refine sB F ?_ ?_<;>intro hZ)
    | refine vp F (c1) ?_
    | refine vp F (c2) ?_
    | refine vp F (c3) ?_)
  all_goals first
    | (exact congrArg DV.bool (s.no (by omega) (hB' (by omega) (by omega)) (by rw [e]; simp_all)).symm)
    | (exact congrArg DV.bool (s.yes (by omega) (hB' (by omega) (by omega))).symm)
    | (exact ⟨s.next (by omega) (by rw [e]; simp_all),s.dec (by omega),(gc [0])⟩)
    | skip
theorem Qx8 (l:List Rw) (i:Nat) (r:Rw) (hi:i < l.length):(cells QbN l).take (i * 3) ++ [.pv (.lit (.int .i64 r.lsn)),.pv (.lit (.int .i64 r.im)),.pv (.lit (.int .i64 r.at_))] ++ (cells QbN l).drop (i * 3 + 3) = cells QbN (l.set i r):=QjZ QbN l i r hi
theorem QuO (l:List Rw) (hl:l.length<=1000000) (i:Nat) (hi:i < l.length) (r:Rw):VCalls prog 213 [.agg [.pv (.sl (fz QbN l))],.int .i64 i,.agg r.d] [] (Ret (.agg [.pv (.sl (fz QbN (l.set i r)))])):=by
  refine dd Tryz.func213 ?_
  have hb:i * 3 + 3<=l.length * 3:=by omega
  have hse:=Qx8 l i r hi
  have hle:(l.set i r).length = l.length:=List.length_set
  (unfold Tryz.f213; refine rn trivial ?_)
  have F:=(And.intro @hb (And.intro @hse @hle))
  (refine rn F ?_; try with_reducible exact ⟨⟩)
theorem Qvi {e:E} (h:e.okB = true) (hk:e.kind = 1\/e.kind = 2\/e.kind = 7):0<=e.c.pg/\e.c.pg < 64:=by
  unfold E.okB at h
  simp only [Bool.and_eq_true] at h
  have h2:=h.2
  unfold E.kindB Ch.okB Ch.ix at h2
  rcases hk with hk | hk | hk<;>rw [hk] at h2<;>simp at h2<;>omega
def QgE (l:List Rw) (e:E):List Rw × Int:=
  if ixB l = false then ([],28) else if e.okB = false then ([],12) else if e.kind ≠ 7 then (l,0) else if (l.length:Int)<=e.c.pg then ([],1)
  else (l.set e.c.pg.toNat ⟨if e.ref > (l.getD e.c.pg.toNat Rw0).lsn then e.ref else (l.getD e.c.pg.toNat Rw0).lsn,(l.getD e.c.pg.toNat Rw0).im,(l.getD e.c.pg.toNat Rw0).at_⟩,0)
theorem Qj9 (l:List Rw) (hl:l.length<=1000000) (e:E):VCalls prog 171 [.agg [.pv (.sl (fz QbN l))],.agg e.d] [] (Ret (.tup [.agg [.pv (.sl (fz QbN (QgE l e).1))],.int .i64 (QgE l e).2])):=by
  refine dk Tryz.func171 ?_
  have c1:=QaV l hl
  have c2:=Qca e
  have c3:=fun i hi=>QuO l hl i hi
  have hp:=@Qvi e
  have hp1:=hp
  have e0:QgE l e = if ixB l = false then ([],28) else if e.okB = false then ([],12) else if e.kind ≠ 7 then (l,0) else if (l.length:Int)<=e.c.pg then ([],1)
    else (l.set e.c.pg.toNat ⟨if e.ref > (l.getD e.c.pg.toNat Rw0).lsn then e.ref else (l.getD e.c.pg.toNat Rw0).lsn,(l.getD e.c.pg.toNat Rw0).im,(l.getD e.c.pg.toNat Rw0).at_⟩,0):=rfl
  generalize QgE l e = r at *
  generalize ixB l = b at *
  cases hok:e.okB
  · rw [hok] at c2 e0
    (unfold Tryz.f171; refine rn trivial ?_)
    refine rn F ?_
    repeat' (first
      | with_reducible exact ⟨⟩
      | (refine sB F ?_ ?_<;>intro hZ)
      | refine vp F (c1) ?_
      | refine vp F (c2) ?_)
    all_goals first | (first | (rw [e0]; simp (disch:=first | assumption | omega | exact rfl | exact nf (by assumption) | exact nt (by assumption) | decide | fail) only [if_pos,if_neg]; first | done | rfl) | (rw [e0]; simp (disch:=first | assumption | omega | exact rfl | exact nf (by assumption) | exact nt (by assumption) | decide | (simp_all; done) | fail) only [if_pos,if_neg]; first | done | rfl)) | skip
  rw [hok] at c2 e0
  by_cases hk:e.kind = 7
  · obtain ⟨i,hi⟩:∃ i:Nat,e.c.pg = i:=⟨e.c.pg.toNat,by have:=hp hok (.inr (.inr hk)); omega⟩
    rw [hi,Int.toNat_natCast] at e0
    have hg:=fun h:i < l.length=>QkN l i h
    generalize l.getD i Rw0 = w at *
    (unfold Tryz.f171; refine rn trivial ?_)
    have F:=(And.intro @hi (And.intro @hg @hk))
    refine rn F ?_
    repeat' (first
      | with_reducible exact ⟨⟩
      | (refine sB F ?_ ?_<;>intro hZ)
      | refine vp F (c1) ?_
      | refine vl F (c2) ?_
      | refine vp F (c3 i (by omega) ⟨_,_,_⟩) ?_)
    all_goals first | (first | (rw [e0]; simp (disch:=first | assumption | omega | exact rfl | exact nf (by assumption) | exact nt (by assumption) | decide | fail) only [if_pos,if_neg]; first | done | rfl) | (rw [e0]; simp (disch:=first | assumption | omega | exact rfl | exact nf (by assumption) | exact nt (by assumption) | decide | (simp_all; done) | fail) only [if_pos,if_neg]; first | done | rfl)) | skip
  · (unfold Tryz.f171; refine rn trivial ?_; try with_reducible exact ⟨⟩)
    have F:=@hk
    refine rn F ?_
    repeat' (first
      | with_reducible exact ⟨⟩
      | (refine sB F ?_ ?_<;>intro hZ)
      | refine vp F (c1) ?_
      | refine vp F (c2) ?_)
    all_goals first | (first | (rw [e0]; simp (disch:=first | assumption | omega | exact rfl | exact nf (by assumption) | exact nt (by assumption) | decide | fail) only [if_pos,if_neg]; first | done | rfl) | (rw [e0]; simp (disch:=first | assumption | omega | exact rfl | exact nf (by assumption) | exact nt (by assumption) | decide | (simp_all; done) | fail) only [if_pos,if_neg]; first | done | rfl)) | skip
def Tx.ss (t:Tx):Prop:=t.l.length<=100000/\t.s.length<=100000
theorem Tx.ss.sm {t:Tx} (h:t.ss):t.sm:=⟨Nat.le_trans h.1 (by decide),Nat.le_trans h.2 (by decide)⟩
def smN (n:Nat) (l:List Tx):Prop:=l.length<=n/\∀ t ∈ l,t.ss
theorem smN.smL {n:Nat} {l:List Tx} (h:smN n l) (hn:n<=1000000):smL l:=⟨Nat.le_trans h.1 hn,fun t ht=>(h.2 t ht).sm⟩
theorem smN.mono {n m:Nat} {l:List Tx} (h:smN n l) (hn:n<=m):smN m l:=⟨Nat.le_trans h.1 hn,h.2⟩
theorem QQ (n:Nat):smN n []:=⟨Nat.zero_le _,fun t h=>by simp at h⟩
theorem QfI {l:List Tx} (h:QdF l = true):smN 64 l:=⟨QmL h,fun t ht=>by
  obtain ⟨i,hi,rfl⟩:=List.getElem_of_mem ht
  have:=QeQ (QdE h hi)
  exact ⟨by omega,by omega⟩⟩
theorem smN.set {n:Nat} {l:List Tx} (h:smN n l) (i:Nat) {t:Tx} (ht:t.ss):smN n (l.set i t):=
  ⟨by rw [List.length_set]; exact h.1,fun x hx=>by
    rcases List.mem_or_eq_of_mem_set hx with hx | rfl
    · exact h.2 x hx
    · exact ht⟩
theorem smN.rem {n:Nat} {l:List Tx} (h:smN n l) (a:Int):smN n (Qol l a):=
  ⟨Nat.le_trans (Qrd l a) h.1,fun x hx=>h.2 x ((List.mem_filter.1 hx).1)⟩
theorem Qk4 {l:List Tx} (a:Int):smN 65 (Qb5 l a).1:=by
  unfold Qb5
  split
  · exact QQ _
  · rename_i h1
    have hv:QdF l = true:=by simpa using h1
    have hs:=QfI hv
    split
    · exact QQ _
    split
    · exact QQ _
    split
    · exact QQ _
    refine ⟨?_,fun x hx=>?_⟩
    · have:=hs.1; unfold QDo; simp only [List.length_append,List.length_take,List.length_cons,List.length_drop]; omega
    · unfold QDo at hx
      rcases List.mem_append.1 hx with h | h
      · exact hs.2 x (List.mem_of_mem_take h)
      rcases List.mem_cons.1 h with rfl | h
      · exact ⟨Nat.zero_le _,Nat.zero_le _⟩
      · exact hs.2 x (List.mem_of_mem_drop h)
theorem Qtu {l:List Tx} {a:Int} (h:(Qs l a).2 = 0):smN 64 l/\(Qs l a).1.l.length<=4096/\(Qs l a).1.s.length<=8:=by
  obtain ⟨hv,i,hi,_,_,h3⟩:=Qds h
  rw [h3]
  exact ⟨QfI hv,QeQ (QdE hv hi)⟩
theorem Qum {l:List Tx} (a:Int):smN 65 (Qqz l a).1:=by
  unfold Qqz
  split
  · exact QQ _
  rename_i h
  obtain ⟨h1,h2,h3⟩:=Qtu (l:=l) (a:=a) (by simpa using h)
  split
  · exact QQ _
  · exact (h1.set _ ⟨by dsimp only; omega,by dsimp only; simp; omega⟩).mono (by omega)
theorem Qwn {l:List Tx} (a sv:Int):smN 65 (Qtj l a sv).1:=by
  unfold Qtj
  split
  · exact QQ _
  rename_i h
  obtain ⟨h1,h2,h3⟩:=Qtu (l:=l) (a:=a) (by simpa using h)
  have h4:∀ k,((Qs l a).1.s.take k).length<=100000:=fun k=>by rw [List.length_take]; omega
  split
  · exact QQ _
  split
  · exact (h1.set _ ⟨by dsimp only; omega,h4 _⟩).mono (by omega)
  · exact (h1.set _ ⟨by dsimp only; omega,h4 _⟩).mono (by omega)
theorem Qn5 {t:Tx} (h:t.ss):(Q5 t).ss:=by unfold Q5; split<;>exact h
theorem Qi1 {l:List Tx} (e:E):smN 65 (QbJ l e).1:=by
  unfold QbJ
  split
  · exact QQ _
  rename_i h1
  have hv:QdF l = true:=by simpa using h1
  have hs:=QfI hv
  split
  · exact QQ _
  split
  · exact hs.mono (by omega)
  split
  · exact QQ _
  rename_i h4
  rcases Q7 l e.tx with h | ⟨i,hi,h,hid⟩
  · omega
  rw [h,Int.toNat_natCast,Qk l i hi]
  have hlen:=QeQ (QdE hv hi)
  unfold Qox
  split
  · exact QQ _
  split
  · exact (hs.rem _).mono (by omega)
  · refine (hs.set _ (Qn5 ?_)).mono (by omega)
    unfold QeR
    have hfl:(l[i].l.filter fun x=>decide (x ≠ e.ref)).length<=l[i].l.length:=List.length_filter_le _ _
    split
    · exact ⟨by dsimp only; simp; omega,by dsimp only; omega⟩
    split
    · exact ⟨by dsimp only; omega,by dsimp only; omega⟩
    · exact ⟨by dsimp only; omega,by simp⟩
attribute [go_sem] Tx.d
structure Kn where
  pg:Int
  nx:Int
  lg:Lg
  pl:Pl
  lk:Lk
  tx:List Tx
  ix:List Rw
  la:List Dt
@[go_sem] def Kn.d (k:Kn):List DV:=[.int .i64 k.pg,.int .i64 k.nx,.int .i64 k.lg.f,.pv (.sl (fz encE k.lg.es)),.int .i64 k.lg.d,.int .i64 k.pl.size,.pv (.sl (fz Qb8 k.pl.fs)),.int .i64 k.pl.hand,.pv (.sl (fz Qao k.lk.held)),.pv (.sl (fz Qao k.lk.wait)),.pv (.sl (fz Qae k.tx)),.pv (.sl (fz QbN k.ix)),.pv (.sl (fz Qdm k.la))]
def Kn0:Kn:=⟨0,0,Lg0,Pl0,Lk0,[],[],[]⟩
def Kn.sm (k:Kn):Prop:=k.lg.es.length<=4096/\k.pl.fs.length<=64/\k.lk.sum<=1024/\smN 65 k.tx/\k.ix.length<=64/\k.la.length<=10000
theorem QbC:Kn0.sm:=⟨by decide,by decide,by decide,QQ _,by decide,by decide⟩
def VK (k:Kn):Prop:=(1<=k.pg/\k.pg<=64)/\(1<=k.nx/\k.nx<=1073741825)/\lgB k.lg = true/\plB k.pl = true/\QdF k.tx = true/\ixB k.ix = true/\k.ix.length = k.pg
def boD (b:Bool):DV:=.bool b
attribute [go_sem] boD QCn lgD QAt QDK QDQ
theorem Qj5 (l:List Dt) (hl:l.length<=1000000) (n:Int):VCalls prog 179 [.pv (.sl (fz Qdm l)),.int .i64 n] [] (QC boD fun _=>True):=by
  refine dd Tryz.func179 ?_
  (unfold Tryz.f179; refine rn trivial ?_)
  refine Qg (fun s:To l.length=>⟨58,0,[(5,.int .i64 s.i),(1,.int .i64 n),(0,.pv (.sl (fz Qdm l)))],[]⟩) (fun s=>l.length - s.i) ⟨0,Nat.zero_le _⟩ (gc []) ?_
  rintro ⟨i,hi⟩
  dsimp only
  have hg:=fun h:i < l.length=>Qfi l i h
  have hgp:=fun h:i - 1 < l.length=>Qfi l (i - 1) h
  have F:=(And.intro @hg @hgp)
  refine rn F ?_
  repeat' (first
    | with_reducible exact ⟨⟩
    | (refine sG F ?_ ?_<;>intro hZ)
    | (refine sB F ?_ ?_<;>intro hZ)
    | (refine Qb (id:=5) [0,1,2,3,4,5,6,7,8,9,10,11,12,13,14,15,16,17,18,19,20,21,22,23,24,25,26,27,28,29,30,31,32,33,34,35,36,37,38,39,40] [] (by kernel_rfl) (by kernel_rfl) ?_; refine rn F ?_))
  all_goals first
    | exact ⟨rfl,rfl,false,rfl,trivial⟩
    | exact ⟨rfl,rfl,true,rfl,trivial⟩
    | exact ⟨⟨i + 1,by omega⟩,by dsimp only; omega,(gc [])⟩
    | skip
@[go_sem] def laD (a:Dt × Bool):DV:=.tup [.agg a.1.d,.bool a.2]
theorem QfK (k:Kn) (hl:k.la.length<=1000000) (n:Int):VCalls prog 134 [.agg k.d,.int .i64 n] [] (QC laD fun _=>True):=by
  refine dd Tryz.func134 ?_
  (unfold Tryz.f134; refine rn trivial ?_)
  refine Qg (fun s:To k.la.length=>⟨28,0,[(6,.int .i64 s.i),(4,.ptr 1 0),(2,.ptr 0 0),(1,.int .i64 n)],[⟨41,true,k.d⟩,⟨190,true,[.int .i64 0,.int .i64 0,.int .i64 0]⟩]⟩) (fun s=>k.la.length - s.i) ⟨0,Nat.zero_le _⟩ (gc [0,1]) ?_
  rintro ⟨i,hi⟩
  dsimp only
  have hg:=fun h:i < k.la.length=>Qfi k.la i h
  have F:=@hg
  refine rn F ?_
  repeat' (first
    | with_reducible exact ⟨⟩
    | (refine sB F ?_ ?_<;>intro hZ))
  all_goals first
    | exact ⟨rfl,rfl,(k.la.getD i Dt0,true),rfl,trivial⟩
    | exact ⟨rfl,rfl,(Dt0,false),rfl,trivial⟩
    | exact ⟨⟨i + 1,by omega⟩,by dsimp only; omega,(gc [0,1])⟩
    | skip
theorem QuH (k:Kn) (h:k.sm):VCalls prog 133 [.agg k.d] [] (QC boD fun b=>b = true->VK k):=by
  refine dd Tryz.func133 ?_
  obtain ⟨h1,h2,h3,h4,h5,h6⟩:=h
  have c1:=QV k.lg (by omega)
  have c2:=Qaj k.pl (by omega)
  have c3:=QaU k.lk (by omega)
  have c4:=Qbs k.tx (h4.smL (by omega))
  have c5:=QaV k.ix (by omega)
  have c6:=fun n=>Qj5 k.la (by omega) n
  have e:VK k = ((1<=k.pg/\k.pg<=64)/\(1<=k.nx/\k.nx<=1073741825)/\lgB k.lg = true/\plB k.pl = true/\QdF k.tx = true/\ixB k.ix = true/\k.ix.length = k.pg):=rfl
  generalize lgB k.lg = b1 at *
  generalize plB k.pl = b2 at *
  generalize QdF k.tx = b4 at *
  generalize ixB k.ix = b5 at *
  (unfold Tryz.f133; refine rn trivial ?_)
  refine rn F ?_
  repeat' (first
    | with_reducible exact ⟨⟩
    | (refine sG F ?_ ?_<;>intro hZ)
    | refine vp F (c1) ?_
    | refine vp F (c2) ?_
    | (refine Qj (c3) rfl ?_; rintro b3 -; refine rn F ?_)
    | refine vp F (c4) ?_
    | refine vp F (c5) ?_
    | (refine Qj (c6 _) rfl ?_; rintro b6 -; refine rn F ?_))
  all_goals first
    | exact ⟨rfl,rfl,false,rfl,fun h=>by cases h⟩
    | (exact ⟨rfl,rfl,_,rfl,fun _=>by rw [e]; refine ⟨⟨by omega,by omega⟩,⟨by omega,by omega⟩,?_,?_,?_,?_,?_⟩<;>first | assumption | omega | (simp_all; done)⟩)
    | skip
theorem Qvv {f d:Int} {es:List E} {e:E} (h:lgB ⟨f,es,d⟩ = true) (hl:es.length < 4096) (he:e.lsn = f + es.length) (ho:e.okB = true):lgB ⟨f,es ++ [e],d⟩ = true:=by
  have hd:=QB h
  simp only [Lg.hd] at hd
  unfold lgB at h |-
  simp only [Bool.and_eq_true,decide_eq_true_eq,List.all_eq_true,List.mem_range] at h |-
  refine ⟨by simp only [Lg.hd,List.length_append,List.length_cons,List.length_nil]; omega,fun i hi=>?_⟩
  simp only [List.length_append,List.length_cons,List.length_nil] at hi
  rcases Nat.lt_or_ge i es.length with hlt | hge
  · have:=h.2 i hlt
    unfold lgC at this |-
    dsimp only at this |-
    rw [List.getD_eq_getElem?_getD,List.getElem?_append_left hlt,<- List.getD_eq_getElem?_getD]
    exact this
  · obtain rfl:i = es.length:=by omega
    unfold lgC
    dsimp only
    rw [List.getD_eq_getElem?_getD,List.getElem?_append_right (Nat.le_refl _),Nat.sub_self]
    simp [he,ho]
theorem Qmt {x:Lg} {e:E} (h:(QdV x e).2.2 = 0):lgB x = true/\x.es.length < 4096/\({ e with lsn:=x.end_ + 1 }:E).okB = true/\QdV x e = (⟨x.f,x.es ++ [{ e with lsn:=x.end_ + 1 }],x.d⟩,x.end_ + 1,0):=by
  unfold QdV at h |-
  split at h
  · simp at h
  rename_i h1
  have hv:lgB x = true:=by simpa using h1
  split at h
  · simp at h
  rename_i h2
  split at h
  · simp at h
  rename_i h3
  have hd:=QB hv
  simp only [Lg.hd] at hd
  exact ⟨hv,by omega,by simpa using h3,by rw [if_neg h1,if_neg h2,if_neg h3]⟩
theorem Qjh {x:Lg} {e:E} (h:(QdV x e).2.2 = 0):lgB (QdV x e).1 = true:=by
  obtain ⟨h1,h2,h3,h4⟩:=Qmt h
  rw [h4]
  exact Qvv (f:=x.f) (d:=x.d) h1 h2 (by dsimp only; unfold Lg.end_; omega) h3
theorem QnC (x:Lg) (e:E):(QdV x e).1.es.length<=4096:=by
  by_cases h:(QdV x e).2.2 = 0
  · exact (QB (Qjh h)).2.2.1
  · unfold QdV at h |-
    split
    · decide
    split
    · decide
    split
    · decide
    · simp_all
theorem Qwp {x:Lg} {e:E} (h:(QdV x e).2.2 = 0):QdU (QdV x e).1 (QdV x e).2.1 = ({ e with lsn:=x.end_ + 1 },0):=by
  have hl:=Qjh h
  obtain ⟨h1,h2,h3,h4⟩:=Qmt h
  rw [h4] at hl |-
  unfold QdU
  dsimp only at hl |-
  have hd:=QB h1
  simp only [Lg.hd] at hd
  rw [if_neg (by rw [hl]; decide),if_neg (by unfold Lg.end_; simp only [List.length_append,List.length_cons,List.length_nil]; omega)]
  have:(x.end_ + 1 - x.f).toNat = x.es.length:=by unfold Lg.end_; omega
  rw [this,List.getD_eq_getElem?_getD,List.getElem?_append_right (Nat.le_refl _),Nat.sub_self]; rfl
theorem Qku (l:List Rw) (e:E) (h:l.length<=64):(QgE l e).1.length<=64:=by
  unfold QgE
  split
  · decide
  split
  · decide
  split
  · exact h
  split
  · decide
  · simpa using h
theorem QrP (l:List Tx) (e:E):smN 65 (QbJ l e).1:=Qi1 e
theorem QW (k:Kn) (h:k.sm):VCalls prog 111 [.agg k.d] [] (QC boD fun b=>b = true->VK k):=by
  refine dd Tryz.func111 ?_
  have c1:=QuH k h
  obtain ⟨h1,h2,h3,h4,h5,h6⟩:=h
  have c2:=QfK k (by omega)
  unfold Lk.sum at h3
  have h40:=h4.1
  (unfold Tryz.f111; refine rn trivial ?_)
  refine rn F ?_
  repeat' (first
    | with_reducible exact ⟨⟩
    | (refine sB F ?_ ?_<;>intro hZ)
    | (refine Qj (c1) rfl ?_; rintro b hb; refine rn F ?_))
  all_goals first
    | exact ⟨rfl,rfl,false,rfl,fun h=>by cases h⟩
    | skip
  refine Qg (fun s:To k.tx.length=>⟨94,0,[(3,.int .i64 s.i),(1,.ptr 0 0)],[⟨41,true,k.d⟩]⟩) (fun s=>k.tx.length - s.i) ⟨0,Nat.zero_le _⟩ (gc [0]) ?_
  rintro ⟨i,hi⟩
  dsimp only
  have hg:=fun h:i < k.tx.length=>QdN k.tx i h
  have F:=@hg
  refine rn F ?_
  repeat' (first
    | with_reducible exact ⟨⟩
    | (refine sB F ?_ ?_<;>intro hZ)
    | (refine Qb (id:=6) [0,1,2,3,4,5,6,7,8] [] (by kernel_rfl) (by kernel_rfl) ?_; refine rn F ?_))
  all_goals first
    | exact ⟨rfl,rfl,false,rfl,fun h=>by cases h⟩
    | exact ⟨⟨i + 1,by omega⟩,by dsimp only; omega,(gc [0])⟩
    | skip
  refine Qg (fun s:To k.pl.fs.length=>⟨94,0,[(4,.int .i64 s.i),(1,.ptr 0 0)],[⟨41,true,k.d⟩]⟩) (fun s=>k.pl.fs.length - s.i) ⟨0,Nat.zero_le _⟩ (gc [0]) ?_
  rintro ⟨j,hj⟩
  dsimp only
  have hf:=fun h:j < k.pl.fs.length=>QbA k.pl.fs j h
  have F:=@hf
  refine rn F ?_
  repeat' (first
    | with_reducible exact ⟨⟩
    | (refine sB F ?_ ?_<;>intro hZ)
    | (refine Qj (c2 _) rfl ?_; rintro ⟨a,b2⟩ -; refine rn F ?_))
  all_goals first
    | exact ⟨rfl,rfl,false,rfl,fun h=>by cases h⟩
    | exact ⟨⟨j + 1,by omega⟩,by dsimp only; omega,(gc [0])⟩
    | skip
  refine Qg (fun s:To k.lk.held.length=>⟨94,0,[(8,.int .i64 s.i),(1,.ptr 0 0)],[⟨41,true,k.d⟩]⟩) (fun s=>k.lk.held.length - s.i) ⟨0,Nat.zero_le _⟩ (gc [0]) ?_
  rintro ⟨m,hm⟩
  dsimp only
  have hx:=fun h:m < k.lk.held.length=>Qaw k.lk.held m h
  have F:=@hx
  refine rn F ?_
  repeat' (first
    | with_reducible exact ⟨⟩
    | (refine sB F ?_ ?_<;>intro hZ)
    | (refine Qb (id:=20) [0,1,2,3,4,5,6,7,8,9,10] [] (by kernel_rfl) (by kernel_rfl) ?_; refine rn F ?_))
  all_goals first
    | exact ⟨rfl,rfl,false,rfl,fun h=>by cases h⟩
    | exact ⟨⟨m + 1,by omega⟩,by dsimp only; omega,(gc [0])⟩
    | skip
  refine Qg (fun s:To k.lk.wait.length=>⟨94,0,[(9,.int .i64 s.i),(1,.ptr 0 0)],[⟨41,true,k.d⟩]⟩) (fun s=>k.lk.wait.length - s.i) ⟨0,Nat.zero_le _⟩ (gc [0]) ?_
  rintro ⟨n,hn⟩
  dsimp only
  have hy:=fun h:n < k.lk.wait.length=>Qaw k.lk.wait n h
  have F:=@hy
  refine rn F ?_
  repeat' (first
    | with_reducible exact ⟨⟩
    | (refine sB F ?_ ?_<;>intro hZ)
    | (refine Qb (id:=25) [0,1,2,3,4,5,6,7,8,9,10] [] (by kernel_rfl) (by kernel_rfl) ?_; refine rn F ?_))
  all_goals first
    | exact ⟨rfl,rfl,false,rfl,fun h=>by cases h⟩
    | exact ⟨⟨n + 1,by omega⟩,by dsimp only; omega,(gc [0])⟩
    | exact ⟨rfl,rfl,true,rfl,fun _=>hb (by assumption)⟩
    | skip
@[go_sem] def inD (n:Int):DV:=.int .i64 n
theorem QlP (k:Kn) (h:k.sm) (n:Int):VCalls prog 137 [.agg k.d,.int .i64 n] [] (QC inD fun _=>True):=by
  refine dd Tryz.func137 ?_
  have c1:=QW k h
  obtain ⟨h1,h2,h3,h4,h5,h6⟩:=h
  have c2:=QfK k (by omega) n
  have c3:=Qgl k.pl (by omega) n
  have hg:=fun h:n.toNat < k.ix.length=>QkN k.ix n.toNat h
  (unfold Tryz.f137; refine rn trivial ?_)
  refine Qj c1 rfl ?_
  rintro b hb
  cases b
  · skip
    (refine rn F ?_; try with_reducible exact ⟨⟩)
    all_goals exact ⟨rfl,rfl,_,rfl,trivial⟩
  obtain ⟨v1,v2,v3,v4,v5,v6,v7⟩:=hb rfl
  have F:=@hg
  refine rn F ?_
  repeat' (first
    | with_reducible exact ⟨⟩
    | (refine sG F ?_ ?_<;>intro hZ)
    | (refine sB F ?_ ?_<;>intro hZ)
    | refine vp F (c3) ?_
    | (refine Qj (c2) rfl ?_; rintro ⟨a,b2⟩ -; refine rn F ?_))
  all_goals first
    | exact ⟨rfl,rfl,_,rfl,trivial⟩
    | skip
theorem Qeb (k:Kn) (h:k.sm) (n:Int):VCalls prog 121 [.agg k.d,.int .i64 n] [] (QC (fun d:Int=>.agg (Kn.d ⟨k.pg,k.nx,⟨k.lg.f,k.lg.es,d⟩,k.pl,k.lk,k.tx,k.ix,k.la⟩)) fun d=>lgB k.lg = true->lgB ⟨k.lg.f,k.lg.es,d⟩ = true):=by
  refine dd Tryz.func121 ?_
  obtain ⟨h1,h2,h3,h4,h5,h6⟩:=h
  have c1:=Qea k.lg (by omega)
  have c2:=QfL k.lg (by omega)
  have e:∀ n,(Q9 k.lg n).2 = 0->(Q9 k.lg n).1 = ⟨k.lg.f,k.lg.es,(Q9 k.lg n).1.d⟩/\lgB (Q9 k.lg n).1 = true:=fun n h=>by
    unfold Q9 at h |-
    split at h
    · simp at h
    rename_i q1
    split at h
    · simp at h
    rename_i q2
    rw [if_neg q1,if_neg q2]
    refine ⟨rfl,?_⟩
    have hv:lgB k.lg = true:=by simpa using q1
    have hd:=QB hv
    unfold lgB at hv |-
    simp only [Bool.and_eq_true,decide_eq_true_eq] at hv |-
    refine ⟨?_,hv.2⟩
    simp only [Lg.hd,Lg.end_] at hd q2 |-
    split<;>omega
  (unfold Tryz.f121; refine rn trivial ?_)
  refine rn F ?_
  repeat' (first
    | with_reducible exact ⟨⟩
    | (refine sB F ?_ ?_<;>intro hZ)
    | refine vp F (c1) ?_
    | refine vp F (c2 _) ?_
    | (refine Qb (id:=1) [0,1,2,3,4] [⟨[11],[],5,[0,1,2,3],[6]⟩,⟨[11],[],7,[0,2,3,4],[8,9,10]⟩,⟨[11],[11],12,[10],[]⟩,⟨[],[],13,[],[]⟩] (by kernel_rfl) (by kernel_rfl) ?_; refine rn F ?_))
  · obtain ⟨e1,e2⟩:=e _ (by assumption)
    generalize Q9 k.lg _ = r at *
    obtain ⟨⟨f',es',d'⟩,er⟩:=r
    simp only [Lg.mk.injEq] at e1
    obtain ⟨rfl,rfl,_⟩:=e1
    exact ⟨rfl,rfl,d',rfl,fun _=>e2⟩
  · exact ⟨rfl,rfl,k.lg.d,rfl,fun h=>h⟩
@[go_sem] def kie (a:Kn × Int × Int):DV:=.tup [.agg a.1.d,.int .i64 a.2.1,.int .i64 a.2.2]
def Qxd (k:Kn) (a:Kn × Int × Int):Prop:=a.1.sm/\(a.2.2 = 0->VK k/\(Qb5 k.tx k.nx).2 = 0/\a.1 = ⟨k.pg,k.nx + 1,k.lg,k.pl,k.lk,(Qb5 k.tx k.nx).1,k.ix,k.la⟩)
theorem Qq4 (k:Kn) (h:k.sm):VCalls prog 103 [.agg k.d] [] (QC kie (Qxd k)):=by
  refine dk Tryz.func103 ?_
  have c1:=QW k h
  have h':=h
  obtain ⟨h1,h2,h3,h4,h5,h6⟩:=h
  have c2:=Qm7 k.tx (h4.smL (by omega)) k.nx
  have hsm:=Qk4 (l:=k.tx) k.nx
  have e0:∀ er n,er ≠ 0->Qxd k (Kn0,n,er):=fun er n h=>⟨QbC,fun h2=>absurd h2 h⟩
  (unfold Tryz.f103; refine rn trivial ?_)
  refine Qj c1 rfl ?_
  rintro b hb
  cases b
  · skip
    (refine rn F ?_; try with_reducible exact ⟨⟩)
    all_goals exact ⟨rfl,rfl,(Kn0,0,15),rfl,e0 _ _ (by decide)⟩
  have hv:=hb rfl
  obtain ⟨v1,v2,v3,v4,v5,v6,v7⟩:=hb rfl
  refine rn F ?_
  repeat' (first
    | with_reducible exact ⟨⟩
    | (refine sB F ?_ ?_<;>intro hZ)
    | refine vp F (c2) ?_
    | (refine Qb (id:=10) [0,1,2,3] [⟨[],[],4,[1,2,3],[]⟩,⟨[],[],5,[],[]⟩,⟨[],[],6,[],[]⟩] (by kernel_rfl) (by kernel_rfl) ?_; refine rn F ?_))
  all_goals first
    | exact ⟨rfl,rfl,(Kn0,0,21),rfl,e0 _ _ (by decide)⟩
    | exact ⟨rfl,rfl,(Kn0,0,(Qb5 k.tx k.nx).2),rfl,e0 _ _ (by assumption)⟩
    | exact ⟨rfl,rfl,(⟨k.pg,k.nx + 1,k.lg,k.pl,k.lk,(Qb5 k.tx k.nx).1,k.ix,k.la⟩,k.nx + 1 - 1,0),rfl,⟨h1,h2,h3,hsm,h5,h6⟩,fun _=>⟨hv,by omega,rfl⟩⟩
    | skip
def Kn.add (k:Kn) (e:E):Kn:=⟨k.pg,k.nx,⟨k.lg.f,k.lg.es ++ [e],k.lg.d⟩,k.pl,k.lk,(QbJ k.tx e).1,(QgE k.ix e).1,k.la⟩
def QCu (e e':E):Prop:=e'.kind = e.kind/\e'.tx = e.tx/\e'.ref = e.ref/\e'.c = e.c/\e'.blob = e.blob
def AddOk (k:Kn) (e e':E):Prop:=VK k/\QCu e e'/\e'.okB = true/\e'.lsn = k.lg.end_ + 1/\k.lg.es.length < 4096/\(QbJ k.tx e').2 = 0/\(QgE k.ix e').2 = 0/\(e.tx = 0->e'.ptx = 0)/\(0 < e.tx->∃ i,i < k.tx.length/\idT k.tx e.tx = i/\e'.ptx = (k.tx.getD i Tx0).n)
def Qxe (k:Kn) (e:E) (a:Kn × Int × Int):Prop:=a.1.sm/\(a.2.2 = 0->∃ e',AddOk k e e'/\a.1 = k.add e'/\a.2.1 = e'.lsn/\lgB a.1.lg = true)
theorem QAc (k:Kn) (e:E) (n er:Int) (h:er ≠ 0):Qxe k e (Kn0,n,er):=⟨QbC,fun h2=>absurd h2 h⟩
theorem Qjj {k:Kn} {e e1:E} (hs:k.sm) (hv:VK k) (h:(QdV k.lg e1).2.2 = 0) (hn:(QbJ k.tx (QdU (QdV k.lg e1).1 (QdV k.lg e1).2.1).1).2 = 0) (hr:(QgE k.ix (QdU (QdV k.lg e1).1 (QdV k.lg e1).2.1).1).2 = 0) (hse:QCu e e1) (h0:e.tx = 0->e1.ptx = 0)
    (hi:0 < e.tx->∃ i,i < k.tx.length/\idT k.tx e.tx = i/\e1.ptx = (k.tx.getD i Tx0).n) :
    Qxe k e (⟨k.pg,k.nx,(QdV k.lg e1).1,k.pl,k.lk,(QbJ k.tx (QdU (QdV k.lg e1).1 (QdV k.lg e1).2.1).1).1,(QgE k.ix (QdU (QdV k.lg e1).1 (QdV k.lg e1).2.1).1).1,k.la⟩,(QdV k.lg e1).2.1,0):=by
  have hg:=Qwp h
  have hl:=Qjh h
  obtain ⟨q1,q2,q3,q4⟩:=Qmt h
  have hlen:=QnC k.lg e1
  obtain ⟨s1,s2,s3,s4,s5,s6⟩:=hs
  rw [hg] at hn hr |-
  rw [q4] at hl hlen |-
  exact ⟨⟨hlen,s2,s3,QrP _ _,Qku _ _ s5,s6⟩,fun _=>⟨{ e1 with lsn:=k.lg.end_ + 1 },⟨hv,hse,q3,rfl,q2,hn,hr,h0,hi⟩,rfl,rfl,hl⟩⟩
theorem QdH (k:Kn) (h:k.sm) (e:E):VCalls prog 129 [.agg k.d,.agg e.d] [] (QC kie (Qxe k e)):=by
  refine dk Tryz.func129 ?_
  have c1:=QW k h
  have ch:=fun n=>QlP k h n
  have h':=h
  obtain ⟨h1,h2,h3,h4,h5,h6⟩:=h
  have c2:=QbG k.tx (Nat.le_trans h4.1 (by decide)) e.tx
  have hq:=QAc k e
  obtain ⟨lsn,kind,tx,ptx,ppg,ref,c,blob⟩:=e
  dsimp only at c2
  have c3:=fun p=>QaX ⟨lsn,kind,tx,p,0,ref,c,blob⟩
  have c4:=fun e=>Qrq k.lg (by omega) e
  have c5:=fun e=>Qe8 (QdV k.lg e).1 (by have:=QnC k.lg e; omega) (QdV k.lg e).2.1
  have c6:=fun e=>QlN k.tx (h4.smL (by omega)) e
  have c7:=fun e=>Qj9 k.ix (by omega) e
  (unfold Tryz.f129; refine rn trivial ?_)
  refine Qj c1 rfl ?_
  rintro b hb
  cases b
  · skip
    (refine rn F ?_; try with_reducible exact ⟨⟩)
    all_goals exact ⟨rfl,rfl,(Kn0,0,15),rfl,hq _ _ (by decide)⟩
  have hv:=hb rfl
  by_cases ht:0 < tx
  · rcases Q7 k.tx tx with hi | ⟨i,hi,hid,_⟩
    · rw [hi] at c2
      have F:=@ht
      refine rn F ?_
      repeat' (first
        | with_reducible exact ⟨⟩
        | refine vp F (c2) ?_)
      all_goals exact ⟨rfl,rfl,(Kn0,0,16),rfl,hq _ _ (by decide)⟩
    · rw [hid] at c2
      have hg:=QdN k.tx i hi
      have F:=(And.intro @ht @hg)
      refine rn F ?_
      repeat' (first
        | with_reducible exact ⟨⟩
        | (refine sB F ?_ ?_<;>intro hZ)
        | refine vp F (c2) ?_
        | refine vp F (c3 _) ?_
        | refine vp F (c4 ⟨_,_,_,_,_,_,⟨_,_,⟨_,_⟩,⟨_,_⟩⟩,_⟩) ?_
        | refine vp F (c5 _) ?_
        | refine vp F (c6 _) ?_
        | refine vp F (c7 _) ?_
        | (refine Qj (ch _) rfl ?_; rintro hd -; refine rn F ?_)
        | (refine Qb (id:=21) [0,1,2,3] [⟨[],[],4,[1,2],[5]⟩,⟨[],[],6,[2],[7]⟩,⟨[],[],8,[],[]⟩] (by kernel_rfl) (by kernel_rfl) ?_; refine rn F ?_))
      all_goals first
        | exact ⟨rfl,rfl,(Kn0,0,_),rfl,hq _ _ (by assumption)⟩
        | (have q:=Qjj (e:=⟨lsn,kind,tx,ptx,ppg,ref,c,blob⟩) (e1:=⟨lsn,kind,tx,(k.tx.getD i Tx0).n,0,ref,c,blob⟩) h' hv (by omega) (by omega) (by omega) ⟨rfl,rfl,rfl,rfl,rfl⟩ (fun h=>by dsimp only at h; omega) (fun _=>⟨i,hi,hid,rfl⟩)
           exact ⟨rfl,rfl,_,rfl,q⟩)
        | (have q:=Qjj (e:=⟨lsn,kind,tx,ptx,ppg,ref,c,blob⟩) (e1:=⟨lsn,kind,tx,(k.tx.getD i Tx0).n,hd,ref,c,blob⟩) h' hv (by omega) (by omega) (by omega) ⟨rfl,rfl,rfl,rfl,rfl⟩ (fun h=>by dsimp only at h; omega) (fun _=>⟨i,hi,hid,rfl⟩)
           exact ⟨rfl,rfl,_,rfl,q⟩)
        | skip
  · skip
    have F:=@ht
    refine rn F ?_
    repeat' (first
      | with_reducible exact ⟨⟩
      | (refine sB F ?_ ?_<;>intro hZ)
      | refine vp F (c3 _) ?_
      | refine vp F (c4 ⟨_,_,_,_,_,_,⟨_,_,⟨_,_⟩,⟨_,_⟩⟩,_⟩) ?_
      | refine vp F (c5 _) ?_
      | refine vp F (c6 _) ?_
      | refine vp F (c7 _) ?_
      | (refine Qj (ch _) rfl ?_; rintro hd -; refine rn F ?_)
      | (refine Qb (id:=21) [0,1,2,3] [⟨[],[],4,[1,2],[5]⟩,⟨[],[],6,[2],[7]⟩,⟨[],[],8,[],[]⟩] (by kernel_rfl) (by kernel_rfl) ?_; refine rn F ?_))
    all_goals first
      | exact ⟨rfl,rfl,(Kn0,0,_),rfl,hq _ _ (by assumption)⟩
      | (have q:=Qjj (e:=⟨lsn,kind,tx,ptx,ppg,ref,c,blob⟩) (e1:=⟨lsn,kind,tx,0,0,ref,c,blob⟩) h' hv (by omega) (by omega) (by omega) ⟨rfl,rfl,rfl,rfl,rfl⟩ (fun _=>rfl) (fun h=>absurd h ht)
         exact ⟨rfl,rfl,_,rfl,q⟩)
      | (have q:=Qjj (e:=⟨lsn,kind,tx,ptx,ppg,ref,c,blob⟩) (e1:=⟨lsn,kind,tx,0,hd,ref,c,blob⟩) h' hv (by omega) (by omega) (by omega) ⟨rfl,rfl,rfl,rfl,rfl⟩ (fun _=>rfl) (fun h=>absurd h ht)
         exact ⟨rfl,rfl,_,rfl,q⟩)
      | skip
structure Rs where
  st:Int
  tx:Int
  pg:Int
  cell:Ce
  er:Int
@[go_sem] def Rs.d (r:Rs):List DV:=[.int .i64 r.st,.int .i64 r.tx,.int .i64 r.pg,.bool r.cell.set,.pv (.str r.cell.data),.int .i64 r.er]
def QaC (e:Int):Rs:=⟨5,0,0,Ce0,e⟩
@[go_sem] def krD (a:Kn × Rs):DV:=.tup [.agg a.1.d,.agg a.2.d]
structure Ev (x y:Lg):Prop where
  f:y.f = x.f
  pre:x.es <+: y.es
  ok:lgB x = true->lgB y = true
theorem Ev.refl (x:Lg):Ev x x:=⟨rfl,List.prefix_rfl,fun h=>h⟩
theorem Ev.trans {x y z:Lg} (a:Ev x y) (b:Ev y z):Ev x z:=⟨b.f.trans a.f,a.pre.trans b.pre,fun h=>b.ok (a.ok h)⟩
theorem Ev.len {x y:Lg} (a:Ev x y):x.es.length<=y.es.length:=a.pre.length_le
theorem AddOk.le {k:Kn} {e e':E} (_:AddOk k e e') (hl:lgB (k.add e').lg = true):Ev k.lg (k.add e').lg:=⟨rfl,List.prefix_append _ _,fun _=>hl⟩
theorem Ev.force {x:Lg} {d:Int} (h:lgB x = true->lgB ⟨x.f,x.es,d⟩ = true):Ev x ⟨x.f,x.es,d⟩:=⟨rfl,List.prefix_rfl,h⟩
theorem QdT {k k1:Kn} {e:E} {n1 e1:Int} (hq:Qxe k e (k1,n1,e1)) (h:e1 = 0):Ev k.lg k1.lg/\lgB k1.lg = true/\k1.lg.es.length = k.lg.es.length + 1/\k1.pg = k.pg/\k1.pl = k.pl/\k1.lk = k.lk/\k1.la = k.la:=by
  obtain ⟨e',ha,hk,_,hl⟩:=hq.2 h
  dsimp only at hk hl
  subst hk
  exact ⟨ha.le hl,hl,by simp [Kn.add],rfl,rfl,rfl,rfl⟩
theorem Qac (e:Int):VCalls prog 97 [.int .i64 e] [] (Ret (.agg (QaC e).d)):=by
  refine dd Tryz.func97 ?_
  (unfold Tryz.f97; refine rn trivial ?_)
  rfl
theorem Qom (k:Kn) (h:k.sm) (tx pg sl:Int) (hi:0<=idT k.tx tx):VCalls prog 238 [.agg k.d,.int .i64 tx,.agg [.int .i64 pg,.int .i64 sl]] [] (QC boD fun _=>True):=by
  refine dd Tryz.func238 ?_
  obtain ⟨h1,h2,h3,h4,h5,h6⟩:=h
  have c2:=QbG k.tx (Nat.le_trans h4.1 (by decide)) tx
  have c5:=fun n=>Qe8 k.lg (by omega) n
  rcases Q7 k.tx tx with hn | ⟨i,hil,hid,_⟩
  · omega
  rw [hid] at c2
  have hg:=QdN k.tx i hil
  have ht:(k.tx.getD i Tx0).l.length<=100000:=by rw [Qk _ _ hil]; exact (h4.2 _ (List.getElem_mem hil)).1
  (unfold Tryz.f238; refine rn trivial ?_)
  have F:=@hg
  refine rn F ?_
  repeat' (first
    | with_reducible exact ⟨⟩
    | refine vp F (c2) ?_
    | (refine Qb (id:=1) [0,1,2,3,4] [⟨[8],[],5,[0,1,2],[6,7]⟩,⟨[8],[8],9,[],[]⟩] (by kernel_rfl) (by kernel_rfl) ?_; refine rn F ?_))
  generalize k.tx.getD i Tx0 = t at *
  refine Qg (fun s:To t.l.length=>⟨55,0,[(8,.int .i64 s.i),(7,.ptr 2 0),(5,.ptr 1 0),(3,.ptr 0 0)],[⟨41,true,k.d⟩,⟨197,true,[.int .i64 pg,.int .i64 sl]⟩,⟨218,true,t.d⟩]⟩) (fun s=>t.l.length - s.i) ⟨0,Nat.zero_le _⟩ (gc [0,1,2]) ?_
  rintro ⟨j,hj⟩
  dsimp only
  have hx:=fun h:j < t.l.length=>QX t.l j h
  have F:=@hx
  refine rn F ?_
  repeat' (first
    | with_reducible exact ⟨⟩
    | (refine sG F ?_ ?_<;>intro hZ)
    | (refine sB F ?_ ?_<;>intro hZ)
    | refine vp F (c5 _) ?_
    | (refine Qb (id:=5) [0,1,2,3,4,5,6] [⟨[11],[],7,[0,2,3,4,5],[8,9,10]⟩,⟨[11],[11],12,[10],[]⟩,⟨[],[],13,[],[]⟩] (by kernel_rfl) (by kernel_rfl) ?_; refine rn F ?_))
  all_goals first
    | exact ⟨rfl,rfl,true,rfl,trivial⟩
    | exact ⟨rfl,rfl,false,rfl,trivial⟩
    | exact ⟨⟨j + 1,by omega⟩,by dsimp only; omega,(gc [0,1,2])⟩
    | skip
def QzV (k:Kn) (a:Kn × Rs):Prop:=a.1.sm/\Ev k.lg a.1.lg/\a.2.st ≠ 3
theorem Qrl (k:Kn) (h:k.sm) (tx:Int) (hi:0<=idT k.tx tx):VCalls prog 193 [.agg k.d,.int .i64 tx] [] (QC krD (QzV k)):=by
  refine dk Tryz.func193 ?_
  have h':=h
  obtain ⟨h1,h2,h3,h4,h5,h6⟩:=h
  have c2:=QbG k.tx (Nat.le_trans h4.1 (by decide)) tx
  have c3:=Qgk k.tx (Nat.le_trans h4.1 (by decide)) tx
  have c4:=QdH k h' ⟨0,3,tx,0,0,0,Ch0,[]⟩
  rcases Q7 k.tx tx with hn | ⟨i,hil,hid,_⟩
  · omega
  rw [hid] at c2
  have hg:=QdN k.tx i hil
  (unfold Tryz.f193; refine rn trivial ?_)
  have F:=@hg
  refine rn F ?_
  repeat' (first
    | with_reducible exact ⟨⟩
    | (refine sB F ?_ ?_<;>intro hZ)
    | refine vp F (c2) ?_
    | refine vp F (c3) ?_
    | (refine Qj (c4) rfl ?_; rintro ⟨k1,n1,e1⟩ hq; refine rn F ?_)
    | refine vp F (Qac _) ?_
    | (refine Qj (Qeb k1 hq.1 _) rfl ?_; rintro d hd; refine rn F ?_)
    | (refine Qj (Qc8 k.lk (by omega) tx) rfl ?_; rintro u hu; refine rn F ?_)
    | (refine Qj (Qc8 k1.lk (Nat.le_trans hq.1.2.2.1 (by decide)) tx) rfl ?_; rintro u hu; refine rn F ?_)
    | (refine Qb (id:=2) [0,1,2,3,4] [⟨[],[],5,[0,1,2],[6,7,8,9]⟩] (by kernel_rfl) (by kernel_rfl) ?_; refine rn F ?_)
    | (refine Qb (id:=6) [0,1] [⟨[],[],2,[0],[]⟩,⟨[],[],3,[1],[]⟩,⟨[],[],4,[],[]⟩] (by kernel_rfl) (by kernel_rfl) ?_; refine rn F ?_))
  · exact ⟨rfl,rfl,(⟨k.pg,k.nx,k.lg,k.pl,u,Qol k.tx tx,k.ix,k.la⟩,⟨1,0,0,Ce0,0⟩),rfl,⟨h1,h2,Nat.le_trans hu h3,h4.rem _,h5,h6⟩,Ev.refl _,by simp [QaC]⟩
  · exact ⟨rfl,rfl,(k,QaC e1),rfl,h',Ev.refl _,by simp [QaC]⟩
  · obtain ⟨q1,q2,q3,q4,q5,q6,q7⟩:=QdT hq (by omega)
    obtain ⟨r1,r2,r3,r4,r5,r6⟩:=hq.1
    exact ⟨rfl,rfl,(⟨k1.pg,k1.nx,⟨k1.lg.f,k1.lg.es,d⟩,k1.pl,u,k1.tx,k1.ix,k1.la⟩,⟨1,0,0,Ce0,0⟩),rfl,⟨r1,r2,Nat.le_trans hu r3,r4,r5,r6⟩,q1.trans (Ev.force hd),by simp [QaC]⟩
theorem Qzt {l:List Tx} {a:Int}:0<=idT l a ↔ a ∈ l.map (·.id):=by
  unfold idT Qnn
  constructor
  · intro h
    split at h
    · rename_i hx
      obtain ⟨t,ht,he⟩:=List.any_eq_true.1 hx
      exact List.mem_map.2 ⟨t,ht,by simpa using he⟩
    · omega
  · intro h
    obtain ⟨t,ht,he⟩:=List.mem_map.1 h
    rw [if_pos (List.any_eq_true.2 ⟨t,ht,by simpa using he⟩)]
    omega
theorem Qn6 (t:Tx):(Q5 t).id = t.id:=by unfold Q5; split<;>rfl
theorem Qvm (t:Tx) (e:E):(QeR t e).id = t.id:=by unfold QeR; split; rfl; split<;>rfl
theorem QrQ {l:List Tx} {e:E} (h:(QbJ l e).2 = 0) (hk:e.kind ≠ 3/\e.kind ≠ 5):(QbJ l e).1.map (·.id) = l.map (·.id):=by
  unfold QbJ at h |-
  split at h
  · simp at h
  rename_i q1
  split at h
  · simp at h
  rename_i q2
  split at h
  · rename_i q3; rw [if_neg q1,if_neg q2,if_pos q3]
  rename_i q3
  split at h
  · simp at h
  rename_i q4
  rw [if_neg q1,if_neg q2,if_neg q3,if_neg q4]
  rcases Q7 l e.tx with hn | ⟨i,hi,hid,_⟩
  · omega
  rw [hid,Int.toNat_natCast] at h |-
  unfold Qox at h |-
  split at h
  · simp at h
  rename_i q5
  split at h
  · rename_i q6; omega
  rename_i q6
  rw [if_neg q5,if_neg q6]
  dsimp only
  rw [List.map_set,Qn6,Qvm,Qk l i hi]
  have:l[i].id = (l.map (·.id))[i]'(by simpa using hi):=by rw [List.getElem_map]
  rw [this,List.set_getElem_self]
theorem Qov {l:List Tx} {e:E} (h:(QbJ l e).2 = 0) (hk:e.kind ≠ 3/\e.kind ≠ 5) {a:Int} (ha:0<=idT l a):0<=idT (QbJ l e).1 a:=by
  rw [Qzt] at ha |-; rw [QrQ h hk]; exact ha
theorem Qow {l:List Tx} {e:E} (h:(QbJ l e).2 = 0) (ht:e.tx = 0):(QbJ l e).1 = l:=by
  unfold QbJ at h |-
  split at h
  · simp at h
  rename_i q1
  split at h
  · simp at h
  rename_i q2
  rw [if_neg q1,if_neg q2,if_pos ht]
theorem Qtr {k k1:Kn} {e:E} {n1 e1:Int} (hq:Qxe k e (k1,n1,e1)) (h:e1 = 0) (hk:e.kind ≠ 3/\e.kind ≠ 5) {a:Int} (ha:0<=idT k.tx a):0<=idT k1.tx a:=by
  obtain ⟨e',⟨v,s,_,_,_,hn,_⟩,hk1,_,_⟩:=hq.2 h
  dsimp only at hk1
  subst hk1
  exact Qov hn (by rw [s.1]; exact hk) ha
theorem Qtt {k k1:Kn} {e:E} {n1 e1:Int} (hq:Qxe k e (k1,n1,e1)) (h:e1 = 0) (ht:e.tx = 0):k1.tx = k.tx:=by
  obtain ⟨e',⟨v,s,_,_,_,hn,_⟩,hk1,_,_⟩:=hq.2 h
  dsimp only at hk1
  subst hk1
  exact Qow hn (by rw [s.2.1]; exact ht)
def QBR (k:Kn) (st:Int) (a:Kn × Rs):Prop:=a.1.sm/\Ev k.lg a.1.lg/\(a.2.st = st\/a.2.st = 5)
theorem QmX (k:Kn) (h:k.sm) (tx st:Int) (hi:0<=idT k.tx tx):VCalls prog 194 [.agg k.d,.int .i64 tx,.int .i64 st] [] (QC krD (QBR k st)):=by
  refine dk Tryz.func194 ?_
  have h':=h
  obtain ⟨h1,h2,h3,h4,h5,h6⟩:=h
  have c1:=Qro k.lk (by omega) tx
  have c2:=QbG k.tx (Nat.le_trans h4.1 (by decide)) tx
  have c3:=Qgk k.tx (Nat.le_trans h4.1 (by decide)) tx
  have c4:=fun (u:Lk) (hu:u.sum<=k.lk.sum)=>QdH ⟨k.pg,k.nx,k.lg,k.pl,u,k.tx,k.ix,k.la⟩ ⟨h1,h2,Nat.le_trans hu h3,h4,h5,h6⟩ ⟨0,4,tx,0,0,0,Ch0,[]⟩
  rcases Q7 k.tx tx with hn | ⟨i,hil,hid,_⟩
  · omega
  rw [hid] at c2
  have hg:=QdN k.tx i hil
  (unfold Tryz.f194; refine rn trivial ?_)
  have F:=@hg
  refine rn F ?_
  repeat' (first
    | with_reducible exact ⟨⟩
    | (refine sB F ?_ ?_<;>intro hZ)
    | (refine Qj (c1) rfl ?_; rintro u hu; refine rn F ?_)
    | refine vp F (c2) ?_
    | refine vp F (c3) ?_
    | (refine Qj (c4 u hu) rfl ?_; rintro ⟨k1,n1,e1⟩ hq; refine rn F ?_)
    | refine vp F (Qac _) ?_
    | (refine Qj (Qc8 u (Nat.le_trans hu (Nat.le_trans h3 (by decide))) tx) rfl ?_; rintro u2 hu2; refine rn F ?_)
    | (refine Qb (id:=3) [0,1,2,3,4] [⟨[],[],5,[0,1,2],[6,7,8,9]⟩] (by kernel_rfl) (by kernel_rfl) ?_; refine rn F ?_)
    | (refine Qb (id:=9) [0,1] [⟨[],[],2,[0],[]⟩,⟨[],[],3,[1],[]⟩,⟨[],[],4,[],[]⟩] (by kernel_rfl) (by kernel_rfl) ?_; refine rn F ?_))
  · exact ⟨rfl,rfl,(⟨k.pg,k.nx,k.lg,k.pl,u2,Qol k.tx tx,k.ix,k.la⟩,⟨st,0,0,Ce0,0⟩),rfl,⟨h1,h2,Nat.le_trans hu2 (Nat.le_trans hu h3),h4.rem _,h5,h6⟩,Ev.refl _,.inl rfl⟩
  · exact ⟨rfl,rfl,(k,QaC e1),rfl,h',Ev.refl _,.inr rfl⟩
  have he1:e1 = 0:=by omega
  obtain ⟨q1,q2,q3,q4,q5,q6,q7⟩:=QdT hq he1
  have hst:=Qtr hq he1 ⟨by simp,by simp⟩ hi
  obtain ⟨r1,r2,r3,r4,r5,r6⟩:=hq.1
  dsimp only at q1 hst r1 r2 r3 r4 r5 r6
  have hkl:k1.lk.held.length<=1024:=by unfold Lk.sum at r3; omega
  refine Qg (fun s:{s:Nat × Lk // s.1<=k1.lk.held.length/\s.2.sum<=1024}=>⟨95,0,[(12,.int .i64 s.1.1),(11,.pv (.sl (fz Qao k1.lk.held))),(8,.ptr 2 0),(7,.ptr 1 0),(6,.ptr 0 0),(2,.int .i64 st),(1,.int .i64 tx)],[⟨41,true,[.int .i64 0,.int .i64 0,.int .i64 0,.pv (.slc []),.int .i64 0,.int .i64 0,.pv (.slc []),.int .i64 0,.pv (.slc []),.pv (.slc []),.pv (.slc []),.pv (.slc []),.pv (.slc [])]⟩,⟨138,true,[.int .i64 0,.int .i64 0,.int .i64 0,.bool false,.pv (.str []),.int .i64 0]⟩,⟨41,true,Kn.d ⟨k1.pg,k1.nx,k1.lg,k1.pl,s.1.2,k1.tx,k1.ix,k1.la⟩⟩]⟩) (fun s=>k1.lk.held.length - s.1.1) ⟨(0,k1.lk),Nat.zero_le _,r3⟩ (gc [1,2,3]) ?_
  rintro ⟨⟨j,u3⟩,hj,hu3⟩
  dsimp only at hj hu3 |-
  have hx:=fun h:j < k1.lk.held.length=>Qaw k1.lk.held j h
  have d1:=Qom ⟨k1.pg,k1.nx,k1.lg,k1.pl,u3,k1.tx,k1.ix,k1.la⟩ ⟨r1,r2,hu3,r4,r5,r6⟩ tx
  have d2:=Qri u3 (by omega) tx
  have F:=@hx
  refine rn F ?_
  repeat' (first
    | with_reducible exact ⟨⟩
    | (refine sG F ?_ ?_<;>intro hZ)
    | (refine sB F ?_ ?_<;>intro hZ)
    | (refine Qj (d1 _ _ hst) rfl ?_; rintro b -; refine rn F ?_)
    | (refine Qj (d2 _ _) rfl ?_; rintro u4 hu4; refine rn F ?_)
    | (refine Qb (id:=14) [0,1,2,3,4,5,6,7,8,9,10,11,12,13,14] [⟨[],[],15,[0,1,2,3,4,5,6,10,11,12,13],[16,17]⟩] (by kernel_rfl) (by kernel_rfl) ?_; refine rn F ?_)
    | (refine Qb (id:=15) [0,1,2,3,4,5,6,7] [⟨[],[],8,[0,3,4,5,6],[9]⟩,⟨[],[],10,[],[]⟩] (by kernel_rfl) (by kernel_rfl) ?_; refine rn F ?_))
  all_goals first
    | exact ⟨⟨(j + 1,u3),by dsimp only; omega,hu3⟩,by dsimp only; omega,(gc [0,1,2])⟩
    | exact ⟨⟨(j + 1,u4),by dsimp only; omega,Nat.le_trans hu4 hu3⟩,by dsimp only; omega,(gc [0,1,2])⟩
    | exact ⟨rfl,rfl,(⟨k1.pg,k1.nx,k1.lg,k1.pl,u3,k1.tx,k1.ix,k1.la⟩,⟨st,0,0,Ce0,0⟩),rfl,⟨r1,r2,hu3,r4,r5,r6⟩,q1,.inl rfl⟩
    | skip
section
attribute [local go_sem] QaZ
theorem Qjc (x:Pg) (i:Nat) (h:i < 16) (c:Ce):x.d.take (2 + i * 2) ++ [.pv (.lit (.bool c.set)),.pv (.str c.data)] ++ x.d.drop (2 + i * 2 + 2) = (x.setc i c).d:=QzZ x i h c
theorem Qvh {e:E} (h:e.okB = true) (hk:e.kind = 1\/e.kind = 2):0<=e.c.sl/\e.c.sl < 16:=by
  unfold E.okB at h
  simp only [Bool.and_eq_true] at h
  have h2:=h.2
  unfold E.kindB Ch.okB at h2
  rcases hk with hk | hk<;>rw [hk] at h2<;>simp at h2<;>omega
theorem Qts {k k1:Kn} {e:E} {n1 e1:Int} (hq:Qxe k e (k1,n1,e1)) (h:e1 = 0) (hk:e.kind = 1\/e.kind = 2):0<=e.c.sl/\e.c.sl < 16:=by
  obtain ⟨e',⟨v,s,ho,_⟩,_⟩:=hq.2 h
  have:=Qvh ho (by rw [s.1]; exact hk)
  rw [s.2.2.2.1] at this
  exact this
theorem Qt4 (p:Pl) (x:Pg) (h:p.fs.length<=64):(QxU p x).1.fs.length<=64:=by
  unfold QxU
  repeat' split
  all_goals first | exact Nat.zero_le _ | simpa using h
@[go_sem] def kiD (a:Kn × Int):DV:=.tup [.agg a.1.d,.int .i64 a.2]
def QEm (k:Kn) (a:Kn × Int):Prop:=a.1.sm/\(a.2 = 0->Ev k.lg a.1.lg/\lgB a.1.lg = true/\a.1.lg.es.length = k.lg.es.length + 1/\VK k)/\(a.2 ≠ 0->a.1 = k)
theorem QwH (k:Kn) (h:k.sm) (e:E) (hk:e.kind = 1\/e.kind = 2):VCalls prog 188 [.agg k.d,.agg e.d] [] (QC kiD (QEm k)):=by
  refine dk Tryz.func188 ?_
  have h':=h
  obtain ⟨h1,h2,h3,h4,h5,h6⟩:=h
  have c1:=QdH k h' e
  have c2:=Qgl k.pl (by omega) e.c.pg
  have c3:=fun x=>Qyp k.pl (by omega) x
  have hul:=fun x=>Qt4 k.pl x h2
  (unfold Tryz.f188; refine rn trivial ?_)
  refine Qj c1 rfl ?_
  rintro ⟨k1,n1,e1⟩ hq
  by_cases he1:e1 = 0
  · subst he1
    obtain ⟨s1,s2⟩:=Qts hq rfl hk
    obtain ⟨i,hi⟩:∃ i:Nat,e.c.sl = i:=⟨e.c.sl.toNat,by omega⟩
    have hce:=fun x=>Qjc x i (by omega) e.c.a
    have hi16:i < 16:=by omega
    obtain ⟨q1,q2,q3,q4,q5,q6,q7⟩:=QdT hq rfl
    obtain ⟨r1,r2,r3,r4,r5,r6⟩:=hq.1
    have hv:VK k:=by obtain ⟨e',⟨v,_⟩,_⟩:=hq.2 rfl; exact v
    dsimp only at r1 r2 r3 r4 r5 r6
    have hw:=hul ⟨((Qnq k.pl e.c.pg).1.setc i e.c.a).id,n1,((Qnq k.pl e.c.pg).1.setc i e.c.a).cel⟩
    have F:=(And.intro @hi @hce)
    refine rn F ?_
    repeat' (first
      | with_reducible exact ⟨⟩
      | (refine sB F ?_ ?_<;>intro hZ)
      | refine vp F (c2) ?_
      | refine vp F (c3 _) ?_)
    all_goals generalize QxU k.pl ⟨((Qnq k.pl e.c.pg).1.setc i e.c.a).id,n1,((Qnq k.pl e.c.pg).1.setc i e.c.a).cel⟩ = w at *
    · exact ⟨rfl,rfl,(k,w.2),rfl,h',fun h=>absurd h (by assumption),fun _=>rfl⟩
    · exact ⟨rfl,rfl,(⟨k1.pg,k1.nx,k1.lg,w.1,k1.lk,k1.tx,k1.ix,k1.la⟩,0),rfl,⟨r1,hw,r3,r4,r5,r6⟩,fun _=>⟨q1,q2,q3,hv⟩,fun h=>absurd rfl h⟩
  · skip
    have F:=@he1
    refine rn F ?_
    exact ⟨rfl,rfl,(k,e1),rfl,h',fun h=>absurd h he1,fun _=>rfl⟩
structure Ac where
  kind:Int
  pg:Int
  sl:Int
  data:List UInt8
@[go_sem] def Ac.d (a:Ac):List DV:=[.int .i64 a.kind,.int .i64 a.pg,.int .i64 a.sl,.pv (.str a.data)]
theorem Qt3 (p:Pl) (a:Int) (h:p.fs.length<=64):(QAW p a).fs.length<=64:=by
  unfold QAW
  split
  · exact h
  · simpa using h
theorem Qsm {p:Pl} {a:Int} (hp:plB p = true) (h:(Qnq p a).2 = false):idF p.fs a < 0:=by
  unfold Qnq Qbd at h
  rw [hp] at h
  simp only [if_true] at h
  split at h
  · assumption
  · simp at h
def QEO (k:Kn) (a:Ac) (r:Kn × Rs):Prop:=r.1.sm/\Ev k.lg r.1.lg/\(r.2.st = 3->r.1 = k/\r.2.pg = a.pg/\idF k.pl.fs a.pg < 0)
theorem Qrs (k:Kn) (h:k.sm) (hv:VK k) (tx:Int) (a:Ac) (ha:0<=a.sl/\a.sl < 16):VCalls prog 199 [.agg k.d,.int .i64 tx,.agg a.d] [] (QC krD (QEO k a)):=by
  refine dk Tryz.func199 ?_
  have h':=h
  obtain ⟨h1,h2,h3,h4,h5,h6⟩:=h
  have c1:=Qgl k.pl (by omega) a.pg
  have c2:=Qyo k.pl (by omega) a.pg
  have hn:=Qsm (a:=a.pg) hv.2.2.2.1
  have hul:=Qt3 k.pl a.pg h2
  have c3:=fun c=>QwH k h' ⟨0,1,tx,0,0,0,c,[]⟩ (.inl rfl)
  obtain ⟨i,hi⟩:∃ i:Nat,a.sl = i:=⟨a.sl.toNat,by omega⟩
  have hi16:i < 16:=by omega
  generalize Qnq k.pl a.pg = g at *
  have hce:=QnB g.1 i hi16
  generalize QAW k.pl a.pg = up at *
  (unfold Tryz.f199; refine rn trivial ?_)
  have F:=(And.intro @hi @hce)
  refine rn F ?_
  repeat' (first
    | with_reducible exact ⟨⟩
    | (refine sB F ?_ ?_<;>intro hZ)
    | refine vp F (c1) ?_
    | refine vp F (c2) ?_
    | (refine Qj (c3 ⟨_,_,⟨_,_⟩,⟨_,_⟩⟩) rfl ?_; rintro ⟨k1,e1⟩ hq; refine rn F ?_)
    | refine vp F (Qac _) ?_
    | (refine Qb (id:=3) [0,1,2,3] [⟨[],[],4,[1,2,3],[]⟩,⟨[],[],5,[],[]⟩] (by kernel_rfl) (by kernel_rfl) ?_; refine rn F ?_)
    | (refine Qb (id:=6) [0,1,2,3,4,5,6] [⟨[],[],7,[1,2,3,4,5,6],[]⟩,⟨[],[],8,[],[]⟩] (by kernel_rfl) (by kernel_rfl) ?_; refine rn F ?_)
    | (refine Qb (id:=7) [0,1,2,3,4,5,6,7,8,9] [⟨[10],[10],11,[],[]⟩] (by kernel_rfl) (by kernel_rfl) ?_; refine rn F ?_)
    | (refine Qb (id:=12) [0,1] [⟨[],[],2,[0],[]⟩,⟨[],[],3,[1],[]⟩,⟨[],[],4,[],[]⟩] (by kernel_rfl) (by kernel_rfl) ?_; refine rn F ?_))
  all_goals first
    | exact ⟨rfl,rfl,(k,⟨3,0,a.pg,Ce0,0⟩),rfl,h',Ev.refl _,fun _=>⟨rfl,rfl,hn (by first | assumption | simp_all)⟩⟩
    | exact ⟨rfl,rfl,(⟨k.pg,k.nx,k.lg,up,k.lk,k.tx,k.ix,k.la⟩,⟨1,0,0,g.1.cel i,0⟩),rfl,⟨h1,hul,h3,h4,h5,h6⟩,Ev.refl _,fun h=>by simp at h⟩
    | exact ⟨rfl,rfl,(k,QaC e1),rfl,h',Ev.refl _,fun h=>by simp [QaC] at h⟩
    | exact ⟨rfl,rfl,(k1,⟨1,0,0,Ce0,0⟩),rfl,hq.1,(hq.2.1 (by dsimp only; omega)).1,fun h=>by simp at h⟩
    | skip
end
theorem QCr (a b c a' b' c':Int) (d d':List UInt8):QJ [.pv (.lit (.int .i64 a)),.pv (.lit (.int .i64 b)),.pv (.lit (.int .i64 c)),.pv (.str d)] [.pv (.lit (.int .i64 a')),.pv (.lit (.int .i64 b')),.pv (.lit (.int .i64 c')),.pv (.str d')] [(0,1),(1,1),(2,1),(3,2)] = some (decide (a = a') && decide (b = b') && decide (c = c') && decide (d = d')):=by simp [QJ,Q3,Bool.beq_eq_decide_eq,Bool.and_assoc]
def QD1 (k:Kn) (a:Ac) (e:Int):Prop:=e = 0->(1<=a.kind/\a.kind<=7)/\(a.kind<=3->0<=a.sl/\a.sl < 16)
theorem Qrr (k:Kn) (a:Ac):VCalls prog 236 [.agg k.d,.agg a.d] [] (QC inD (QD1 k a)):=by
  refine dk Tryz.func236 ?_
  unfold QD1
  (unfold Tryz.f236; refine rn trivial ?_)
  have F:=@QCr
  refine rn F ?_
  repeat' (first
    | with_reducible exact ⟨⟩
    | (refine sG F ?_ ?_<;>intro hZ)
    | (refine sB F ?_ ?_<;>intro hZ)
    | (refine Qb (id:=9) [0,1,2,3,4] [⟨[],[],5,[2,3],[6]⟩,⟨[],[],7,[],[]⟩] (by kernel_rfl) (by kernel_rfl) ?_; refine rn F ?_))
  all_goals first
    | exact ⟨rfl,rfl,_,rfl,fun h=>absurd h (by decide)⟩
    | exact ⟨rfl,rfl,0,rfl,fun _=>⟨⟨by omega,by omega⟩,fun _=>⟨by omega,by omega⟩⟩⟩
    | skip
@[go_sem] def gbD (a:Gr × Bool):DV:=.tup [.agg a.1.d,.bool a.2]
theorem QqY (tx:Int) (a:Ac):VCalls prog 197 [.int .i64 tx,.agg a.d] [] (QC gbD fun _=>True):=by
  refine dd Tryz.func197 ?_
  (unfold Tryz.f197; refine rn trivial ?_)
  refine rn F ?_
  repeat' (first
    | with_reducible exact ⟨⟩
    | (refine sB F ?_ ?_<;>intro hZ))
  all_goals first
    | exact ⟨rfl,rfl,(⟨_,_,_,_⟩,_),rfl,trivial⟩
    | skip
def QDR (k:Kn) (tx:Int) (a:Ac) (e:Int):Prop:=e = 0->VK k/\0<=idT k.tx tx/\(1<=a.kind/\a.kind<=7)/\(a.kind<=3->0<=a.sl/\a.sl < 16)
theorem Qoi (k:Kn) (h:k.sm) (tx:Int) (a:Ac):VCalls prog 192 [.agg k.d,.int .i64 tx,.agg a.d] [] (QC inD (QDR k tx a)):=by
  refine dk Tryz.func192 ?_
  have c1:=QW k h
  obtain ⟨h1,h2,h3,h4,h5,h6⟩:=h
  have c2:=QbG k.tx (Nat.le_trans h4.1 (by decide)) tx
  have c3:=Qrr k a
  have c4:=Qc6 k.lk (by omega) tx
  have c5:=QqY tx a
  unfold QDR
  rcases Q7 k.tx tx with hn | ⟨i,hil,hid,_⟩
  · rw [hn] at c2
    (unfold Tryz.f192; refine rn trivial ?_)
    refine rn F ?_
    repeat' (first
      | with_reducible exact ⟨⟩
      | (refine sB F ?_ ?_<;>intro hZ)
      | (refine Qj (c1) rfl ?_; rintro b hb; refine rn F ?_)
      | refine vp F (c2) ?_)
    all_goals exact ⟨rfl,rfl,_,rfl,fun h=>absurd h (by decide)⟩
  rw [hid] at c2
  have hg:=QdN k.tx i hil
  (unfold Tryz.f192; refine rn trivial ?_)
  have F:=(And.intro @hg @Qtp)
  refine rn F ?_
  repeat' (first
    | with_reducible exact ⟨⟩
    | (refine sG F ?_ ?_<;>intro hZ)
    | (refine sB F ?_ ?_<;>intro hZ)
    | (refine Qj (c1) rfl ?_; rintro b hb; refine rn F ?_)
    | refine vp F (c2) ?_
    | (refine Qj (c3) rfl ?_; rintro e3 he3; refine rn F ?_)
    | (refine Qj (c4) rfl ?_; rintro ⟨w,ws⟩ -; refine rn F ?_)
    | (refine Qj (c5) rfl ?_; rintro ⟨g,nd⟩ -; refine rn F ?_))
  all_goals first
    | exact ⟨rfl,rfl,_,rfl,fun h=>absurd h (by first | assumption | decide)⟩
    | exact ⟨rfl,rfl,0,rfl,fun _=>⟨hb (by assumption),by omega,(he3 (by omega)).1,(he3 (by omega)).2⟩⟩
    | skip
theorem Qyy (k:Kn) (h:k.lk.sum<=5000) (tx:Int):VCalls prog 201 [.agg k.d,.int .i64 tx] [] (QC inD fun _=>True):=by
  refine dd Tryz.func201 ?_
  have c1:=Qm1 k.lk h tx
  (unfold Tryz.f201; refine rn trivial ?_)
  refine rn F ?_
  repeat' (first
    | with_reducible exact ⟨⟩
    | (refine Qj (c1) rfl ?_; rintro m -; refine rn F ?_)
    | (refine Qj (QuV m) rfl ?_; rintro n -; refine rn F ?_))
  exact ⟨rfl,rfl,_,rfl,trivial⟩
def doQ (k:Kn) (a:Ac) (r:Kn × Rs):Prop:=r.1.sm/\Ev k.lg r.1.lg/\(r.2.st = 3->r.1.pl = k.pl/\r.2.pg = a.pg/\idF k.pl.fs a.pg < 0)
theorem QBl (k:Kn) (h:k.sm) (tx:Int) (a:Ac):VCalls prog 148 [.agg k.d,.int .i64 tx,.agg a.d] [] (QC krD (doQ k a)):=by
  refine dk Tryz.func148 ?_
  have h':=h
  have c1:=Qoi k h tx a
  have c2:=Qrl k h tx
  have c3:=QmX k h tx 1
  obtain ⟨h1,h2,h3,h4,h5,h6⟩:=h
  have hsl:=h4.smL (by omega)
  have c4:=Qyj k.tx hsl tx
  have c5:=QyG k.tx hsl tx a.sl
  have m4:=Qum (l:=k.tx) tx
  have m5:=Qwn (l:=k.tx) tx a.sl
  have c6:=QqY tx a
  have c7:=fun g=>Qoh k.lk (by omega) g
  have hK:=fun (u:Lk) (hu:u.sum<=1024)=>(⟨h1,h2,hu,h4,h5,h6⟩:Kn.sm ⟨k.pg,k.nx,k.lg,k.pl,u,k.tx,k.ix,k.la⟩)
  have c8:=fun (u:Lk) (hu:u.sum<=1024) (hv:VK k)=>Qrs ⟨k.pg,k.nx,k.lg,k.pl,u,k.tx,k.ix,k.la⟩ (hK u hu) hv tx a
  have c9:=fun (u:Lk) (hu:u.sum<=1024)=>QuZ u (by omega) tx
  have c10:=fun (u:Lk) (hu:u.sum<=1024)=>QmX ⟨k.pg,k.nx,k.lg,k.pl,u,k.tx,k.ix,k.la⟩ (hK u hu) tx 4
  (unfold Tryz.f148; refine rn trivial ?_)
  refine Qj c1 rfl ?_
  rintro er her
  by_cases he:er = 0
  rotate_left
  · skip
    have F:=@he
    refine rn F ?_
    repeat' (first
      | with_reducible exact ⟨⟩
      | refine vp F (Qac _) ?_
      | (refine Qb (id:=3) [0,1] [⟨[],[],2,[0],[]⟩,⟨[],[],3,[1],[]⟩,⟨[],[],4,[],[]⟩] (by kernel_rfl) (by kernel_rfl) ?_; refine rn F ?_))
    exact ⟨rfl,rfl,(k,QaC er),rfl,h',Ev.refl _,fun h=>by simp [QaC] at h⟩
  obtain ⟨hv,hi,hk,hs⟩:=her he
  subst he
  have F:=trivial
  refine rn F ?_
  repeat' (first
    | with_reducible exact ⟨⟩
    | (refine sB F ?_ ?_<;>intro hZ)
    | (refine Qj (c2 hi) rfl ?_; rintro ⟨k1,r1⟩ hq; refine rn F ?_)
    | (refine Qj (c3 hi) rfl ?_; rintro ⟨k1,r1⟩ hq; refine rn F ?_)
    | refine vp F (c4) ?_
    | refine vp F (c5) ?_
    | refine vp F (Qac _) ?_
    | (refine Qj (c6) rfl ?_; rintro ⟨g,nd⟩ -; refine rn F ?_)
    | (refine Qj (c7 ⟨_,_,_,_⟩) rfl ?_; rintro ⟨u,hd,e7⟩ hu; refine rn F ?_)
    | (refine Qj (c8 u hu hv (hs (by omega))) rfl ?_; rintro ⟨k1,r1⟩ hq; refine rn F ?_)
    | (refine Qj (c9 u hu) rfl ?_; rintro cy -; refine rn F ?_)
    | (refine Qj (c10 u hu hi) rfl ?_; rintro ⟨k1,r1⟩ hq; refine rn F ?_)
    | (refine Qj (Qyy ⟨k.pg,k.nx,k.lg,k.pl,u,k.tx,k.ix,k.la⟩ (Nat.le_trans hu (by decide)) tx) rfl ?_; rintro n -; refine rn F ?_)
    | (refine Qb (id:=15) [0,1] [⟨[],[],2,[0],[]⟩,⟨[],[],3,[1],[]⟩,⟨[],[],4,[],[]⟩] (by kernel_rfl) (by kernel_rfl) ?_; refine rn F ?_)
    | (refine Qb (id:=21) [0,1] [⟨[],[],2,[0],[]⟩,⟨[],[],3,[1],[]⟩,⟨[],[],4,[],[]⟩] (by kernel_rfl) (by kernel_rfl) ?_; refine rn F ?_)
    | (refine Qb (id:=27) [0,1] [⟨[],[],2,[1],[]⟩,⟨[],[],3,[],[]⟩] (by kernel_rfl) (by kernel_rfl) ?_; refine rn F ?_)
    | (refine Qb (id:=28) [0,1] [⟨[],[],2,[1],[]⟩,⟨[],[],3,[],[]⟩] (by kernel_rfl) (by kernel_rfl) ?_; refine rn F ?_)
    | (refine Qb (id:=32) [0,1] [⟨[],[],2,[1],[]⟩,⟨[],[],3,[],[]⟩] (by kernel_rfl) (by kernel_rfl) ?_; refine rn F ?_)
    | (refine Qb (id:=33) [0,1] [⟨[],[],2,[1],[]⟩,⟨[],[],3,[],[]⟩] (by kernel_rfl) (by kernel_rfl) ?_; refine rn F ?_)
    | (refine Qb (id:=34) [0,1,2] [⟨[],[],3,[0],[4]⟩,⟨[],[],5,[1,2,4],[]⟩,⟨[],[],6,[],[]⟩] (by kernel_rfl) (by kernel_rfl) ?_; refine rn F ?_))
  all_goals first
    | exact ⟨rfl,rfl,(k,QaC _),rfl,h',Ev.refl _,fun h=>by simp [QaC] at h⟩
    | exact ⟨rfl,rfl,(⟨k.pg,k.nx,k.lg,k.pl,k.lk,(Qqz k.tx tx).1,k.ix,k.la⟩,⟨1,0,0,Ce0,0⟩),rfl,⟨h1,h2,h3,m4,h5,h6⟩,Ev.refl _,fun h=>by simp at h⟩
    | exact ⟨rfl,rfl,(⟨k.pg,k.nx,k.lg,k.pl,k.lk,(Qtj k.tx tx a.sl).1,k.ix,k.la⟩,⟨1,0,0,Ce0,0⟩),rfl,⟨h1,h2,h3,m5,h5,h6⟩,Ev.refl _,fun h=>by simp at h⟩
    | exact ⟨rfl,rfl,(⟨k.pg,k.nx,k.lg,k.pl,u,k.tx,k.ix,k.la⟩,⟨2,n,0,Ce0,0⟩),rfl,hK u hu,Ev.refl _,fun h=>by simp at h⟩
    | exact ⟨rfl,rfl,(k1,r1),rfl,hq.1,hq.2.1,fun h=>absurd h hq.2.2⟩
    | exact ⟨rfl,rfl,(k1,r1),rfl,hq.1,hq.2.1,fun h=>⟨Eq.trans (congrArg Kn.pl (hq.2.2 h).1) rfl,(hq.2.2 h).2.1,(hq.2.2 h).2.2⟩⟩
    | exact ⟨rfl,rfl,(k1,r1),rfl,hq.1,hq.2.1,fun h=>by have:=hq.2.2; dsimp only at this h; omega⟩
    | exact ⟨rfl,rfl,(k,r1),rfl,h',Ev.refl _,fun h=>by dsimp only at h; omega⟩
    | skip
section
attribute [local go_sem] QaZ
theorem QwZ {l:List Fm} {a:Int} (h:∃ i,i < l.length/\a = (l.getD i Fm0).pg.id):∃ j:Nat,j < l.length/\idF l a = j/\(l.getD j Fm0).pg.id = a:=by
  obtain ⟨i,hi,ha⟩:=h
  rcases QbY l a with hn | ⟨j,hj,h1,h2⟩
  · unfold idF Qnn at hn
    rw [if_pos (List.any_eq_true.2 ⟨l[i],List.getElem_mem hi,by rw [ha,Qk l i hi]; simp⟩)] at hn
    omega
  · exact ⟨j,hj,h1,h2⟩
theorem QsN (p:Pl) (a:Int) (h:p.fs.length<=64):(Qmm p a).1.fs.length<=64:=by
  unfold Qmm
  repeat' split
  all_goals first
    | exact Nat.zero_le _
    | (simp only [List.length_append,List.length_take,List.length_drop]; omega)
@[go_sem] def QDd (a:Kn × Pg × Bool × Int):DV:=.tup [.agg a.1.d,.agg a.2.1.d,.bool a.2.2.1,.int .i64 a.2.2.2]
def QDc (k:Kn) (a:Kn × Pg × Bool × Int):Prop:=a.1.sm/\(a.2.2.2 = 0->Ev k.lg a.1.lg/\a.1.tx = k.tx/\(a.2.2.1 = true->plB a.1.pl = true/\SameF k.pl.fs a.1.pl.fs/\∃ i,i < a.1.pl.fs.length/\idF a.1.pl.fs a.2.1.id = i/\(a.1.pl.fs.getD i Fm0).pg = a.2.1/\(a.1.pl.fs.getD i Fm0).dirty = true))
theorem Qyk (k:Kn) (h:k.sm):VCalls prog 180 [.agg k.d] [] (QC QDd (QDc k)):=by
  refine dk Tryz.func180 ?_
  have h':=h
  have c1:=QW k h
  obtain ⟨h1,h2,h3,h4,h5,h6⟩:=h
  have c2:=Qym k.pl (by omega)
  (unfold Tryz.f180; refine rn trivial ?_)
  refine Qj c1 rfl ?_
  rintro b hb
  cases b
  · skip
    refine rn F ?_
    exact ⟨rfl,rfl,(Kn0,Pg0,false,15),rfl,QbC,fun h=>by simp at h⟩
  have hv:=hb rfl
  obtain ⟨v1,v2,v3,v4,v5,v6,v7⟩:=hb rfl
  have hd:=Qkf v4
  simp only [Pl.hd] at hd
  refine rn F ?_
  repeat' (first
    | with_reducible exact ⟨⟩
    | (refine sB F ?_ ?_<;>intro hZ))
  · exact ⟨rfl,rfl,(k,Pg0,false,0),rfl,h',fun _=>⟨Ev.refl _,rfl,fun h=>by simp at h⟩⟩
  refine Qj c2 rfl ?_
  rintro ⟨p,id,e⟩ ⟨w1,w2,w3⟩
  obtain rfl:e = 0:=w2 v4 (by omega)
  obtain ⟨_,w4,w5,w6,w7⟩:=w1 rfl
  obtain ⟨i,hi,hid,hix⟩:=QwZ w7
  dsimp only at w3 w4 w5 w6 hi hid hix
  have c3:=Qcb p (by omega) id
  have hf:Qbd p id = i:=by unfold Qbd; rw [if_pos w4]; exact hid
  rw [hf] at c3
  have hg:=QbA p.fs i hi
  have c4:=QuF p (by omega) id
  have hdl:=QsN p id (by omega)
  have hsm:∀ q:Pl,q.fs.length<=64->(⟨k.pg,k.nx,k.lg,q,k.lk,k.tx,k.ix,k.la⟩:Kn).sm:=fun q hq=>⟨h1,hq,h3,h4,h5,h6⟩
  have c5:=Qeb ⟨k.pg,k.nx,k.lg,p,k.lk,k.tx,k.ix,k.la⟩ (hsm p (by omega))
  generalize hff:p.fs.getD i Fm0 = f at *
  have F:=@hg
  refine rn F ?_
  repeat' (first
    | with_reducible exact ⟨⟩
    | (refine sB F ?_ ?_<;>intro hZ)
    | refine vp F (c3) ?_
    | refine vp F (c4) ?_
    | (refine Qj (c5 _) rfl ?_; rintro d hd2; refine rn F ?_)
    | (refine Qb (id:=7) [0,1,2,3] [⟨[7],[],4,[0,1],[5,6]⟩,⟨[7],[7],8,[],[]⟩] (by kernel_rfl) (by kernel_rfl) ?_; refine rn F ?_)
    | (refine Qb (id:=11) [0,1,2,3,5,6] [⟨[],[],4,[1,2,5,6],[]⟩,⟨[],[],7,[5,6],[]⟩,⟨[],[],8,[],[]⟩,⟨[],[],9,[],[]⟩,⟨[],[],10,[],[]⟩] (by kernel_rfl) (by kernel_rfl) ?_; refine rn F ?_))
  · exact ⟨rfl,rfl,(⟨k.pg,k.nx,k.lg,(Qmm p id).1,k.lk,k.tx,k.ix,k.la⟩,Pg0,false,0),rfl,hsm _ hdl,fun _=>⟨Ev.refl _,rfl,fun h=>by simp at h⟩⟩
  · exact ⟨rfl,rfl,(⟨k.pg,k.nx,⟨k.lg.f,k.lg.es,d⟩,p,k.lk,k.tx,k.ix,k.la⟩,f.pg,true,0),rfl,⟨h1,by dsimp only; omega,h3,h4,h5,h6⟩,fun _=>⟨Ev.force hd2,rfl,fun _=>⟨w4,w5,i,hi,by dsimp only; rw [hix]; exact hid,by dsimp only; rw [hff],by dsimp only; rw [hff]; first | assumption | simp_all⟩⟩⟩
@[go_sem] def QB1 (a:Kn × Pg × Int):DV:=.tup [.agg a.1.d,.agg a.2.1.d,.int .i64 a.2.2]
def QB0 (k:Kn) (n:Int) (a:Kn × Pg × Int):Prop:=a.1.sm/\(a.2.2 = 0->Ev k.lg a.1.lg/\0<=Qbd k.pl n)
theorem QuU (k:Kn) (h:k.sm) (n:Int):VCalls prog 105 [.agg k.d,.int .i64 n] [] (QC QB1 (QB0 k n)):=by
  refine dk Tryz.func105 ?_
  have c1:=QW k h
  have h':=h
  obtain ⟨h1,h2,h3,h4,h5,h6⟩:=h
  have c2:=Qgl k.pl (by omega) n
  have c3:=Qeb k h'
  have hz:(Qnq k.pl n).2 = true->0<=Qbd k.pl n:=fun h=>by
    unfold Qnq at h
    split at h
    · simp at h
    · omega
  generalize Qnq k.pl n = g at *
  (unfold Tryz.f105; refine rn trivial ?_)
  refine rn F ?_
  repeat' (first
    | with_reducible exact ⟨⟩
    | (refine sB F ?_ ?_<;>intro hZ)
    | (refine Qj (c1) rfl ?_; rintro b -; refine rn F ?_)
    | refine vp F (c2) ?_
    | (refine Qj (c3 _) rfl ?_; rintro d hd; refine rn F ?_)
    | (refine Qb (id:=6) [0,1,2,4] [⟨[],[],3,[1,4],[]⟩,⟨[],[],5,[4],[]⟩,⟨[],[],6,[],[]⟩,⟨[],[],7,[],[]⟩] (by kernel_rfl) (by kernel_rfl) ?_; refine rn F ?_))
  all_goals first
    | exact ⟨rfl,rfl,(Kn0,Pg0,15),rfl,QbC,fun h=>by simp at h⟩
    | exact ⟨rfl,rfl,(Kn0,Pg0,18),rfl,QbC,fun h=>by simp at h⟩
    | exact ⟨rfl,rfl,(⟨k.pg,k.nx,⟨k.lg.f,k.lg.es,d⟩,k.pl,k.lk,k.tx,k.ix,k.la⟩,g.1,0),rfl,⟨h1,h2,h3,h4,h5,h6⟩,fun _=>⟨Ev.force hd,hz (by first | assumption | simp_all)⟩⟩
    | skip
theorem Qo2 (p:Pl) (a n:Int) (h:p.fs.length<=64):(QbB p a n).1.fs.length<=64:=by
  unfold QbB
  repeat' split
  all_goals first | exact Nat.zero_le _ | exact h | simpa using h
def QtF (k:Kn) (id n:Int) (a:Kn × Int):Prop:=a.1.sm/\(a.2 = 0->VK k/\Ev k.lg a.1.lg/\a.1.tx = k.tx/\(0<=Qbd k.pl id->a.1.pl = (QbB k.pl id n).1/\(QbB k.pl id n).2 = 0)/\(Qbd k.pl id < 0->a.1.pl = k.pl))
theorem Qoc (k:Kn) (h:k.sm) (id n:Int):VCalls prog 126 [.agg k.d,.int .i64 id,.int .i64 n] [] (QC kiD (QtF k id n)):=by
  refine dk Tryz.func126 ?_
  have c1:=QW k h
  have h':=h
  obtain ⟨h1,h2,h3,h4,h5,h6⟩:=h
  have c2:=Qea k.lg (by omega)
  have c3:=Qcb k.pl (by omega) id
  have c4:=fun (h:n<=1099511627776) (h0:0<=n)=>QqT k.pl (by omega) id n h h0
  have c5:=QdH k h' ⟨0,7,0,0,0,n,⟨id,0,Ce0,Ce0⟩,[]⟩
  have hcl:=Qo2 k.pl id n h2
  (unfold Tryz.f126; refine rn trivial ?_)
  refine Qj c1 rfl ?_
  rintro b hb
  cases b
  · skip
    refine rn F ?_
    exact ⟨rfl,rfl,(Kn0,15),rfl,QbC,fun h=>by simp at h⟩
  have hv:=hb rfl
  have hls:QcL k.lg<=1099511627776:=by
    unfold QcL; rw [if_pos hv.2.2.1]; exact QrY hv.2.2.1
  refine rn F ?_
  repeat' (first
    | with_reducible exact ⟨⟩
    | (refine sG F ?_ ?_<;>intro hZ)
    | (refine sB F ?_ ?_<;>intro hZ)
    | refine vp F (c2) ?_
    | refine vp F (c3) ?_
    | refine vp F (c4 (by omega) (by omega)) ?_
    | (refine Qj (c5) rfl ?_; rintro ⟨k1,n1,e1⟩ hq; refine rn F ?_))
  all_goals first
    | exact ⟨rfl,rfl,(Kn0,1),rfl,QbC,fun h=>by simp at h⟩
    | exact ⟨rfl,rfl,(Kn0,(QbB k.pl id n).2),rfl,QbC,fun h=>absurd h (by assumption)⟩
    | exact ⟨rfl,rfl,(Kn0,e1),rfl,QbC,fun h=>absurd h (by assumption)⟩
    | (have he1:e1 = 0:=by omega
       obtain ⟨q1,q2,q3,q4,q5,q6,q7⟩:=QdT hq he1
       have q8:=Qtt hq he1 rfl
       obtain ⟨r1,r2,r3,r4,r5,r6⟩:=hq.1
       first
         | exact ⟨rfl,rfl,(⟨k1.pg,k1.nx,k1.lg,(QbB k.pl id n).1,k1.lk,k1.tx,k1.ix,k1.la⟩,0),rfl,⟨r1,hcl,r3,r4,r5,r6⟩,fun _=>⟨hv,q1,q8,fun _=>⟨rfl,by omega⟩,fun h=>by omega⟩⟩
         | exact ⟨rfl,rfl,(⟨k1.pg,k1.nx,k1.lg,k.pl,k1.lk,k1.tx,k1.ix,k1.la⟩,0),rfl,⟨r1,h2,r3,r4,r5,r6⟩,fun _=>⟨hv,q1,q8,fun h=>by omega,fun _=>rfl⟩⟩)
    | skip
end
section
attribute [local go_sem] QaZ
theorem Qrv {p:Pl} {x:Pg} (h:(Qpp p x).2 = 0):plB p = true/\QaI x = 0/\idF p.fs x.id < 0/\¬ (p.fs.length:Int) = p.size:=by
  unfold Qpp at h
  split at h
  · simp at h
  rename_i q1
  split at h
  · rename_i q2; exact absurd h q2
  rename_i q2
  split at h
  · simp at h
  rename_i q3
  split at h
  · simp at h
  rename_i q4
  exact ⟨by simpa using q1,by simpa using q2,by omega,q4⟩
def QCQ (p:Pl) (x:Pg) (o:Nat):Qa:=[⟨31,true,[.int .i64 p.size,.own (o + 5) 37 0 (p.fs.length + 1),.int .i64 p.hand]⟩,⟨178,true,x.d⟩,⟨31,true,[.int .i64 p.size,.own (o + 5) 37 0 (p.fs.length + 1),.int .i64 p.hand]⟩,⟨182,false,[]⟩,⟨182,true,Fm.d ⟨x,false,0,true⟩⟩,⟨182,true,cells Qb8 (p.fs ++ [⟨x,false,0,true⟩])⟩]
theorem Qyr (p:Pl) (hl:p.fs.length<=100000) (x:Pg) (h:(Qpp p x).2 = 0):VCalls prog 184 [.agg p.d,.agg x.d] [] fun r h'=>r = .tup [.agg [.int .i64 p.size,.own 5 37 0 (p.fs.length + 1),.int .i64 p.hand],.int .i64 0]/\h' = QCQ p x 0:=by
  refine Qb9 (fn:=Tryz.f184) Tryz.func184 rfl (by kernel_rfl) (by simp [Tryz.f184]) ?_
  obtain ⟨e1,e2,e3,e4⟩:=Qrv h
  have c1:=Qaj p (by omega)
  have c2:=Qdb x
  have c3:=Qcc p (by omega) x.id
  rw [e1] at c1
  rw [e2] at c2
  have e5:¬ 0<=idF p.fs x.id:=by omega
  generalize idF p.fs x.id = m at *
  (unfold Tryz.f184; refine rn trivial ?_)
  have F:=(And.intro @e5 @e4)
  refine rn F ?_
  repeat' (first
    | with_reducible exact ⟨⟩
    | refine vp F (c1) ?_
    | refine vp F (c2) ?_
    | refine vp F (c3) ?_
    | (refine Qb (id:=10) [0,1,3,4] [⟨[5],[],2,[0,3,4],[]⟩,⟨[5],[5],6,[0,1,3,4],[7]⟩,⟨[],[],8,[],[]⟩] (by kernel_rfl) (by kernel_rfl) ?_; refine rn F ?_))
  all_goals rfl
theorem Qih (hp h':Qa):QT hp [] h' = hp ++ h'.map (Qdt (back [] hp.length)):=by
  unfold QT
  congr 1
  apply List.ext_getElem?
  intro k
  rw [List.getElem?_map]
  by_cases hk:k < hp.length
  · rw [List.getElem?_range hk]
    simp [List.getElem?_eq_getElem hk]
  · rw [List.getElem?_eq_none (l:=List.range hp.length) (by simpa using hk),List.getElem?_eq_none (l:=hp) (by omega)]
    rfl
theorem QAS {hp:Qa} {K:DV->Qa->Prop} (p:Pl) (hl:p.fs.length<=100000) (x:Pg) (hz:(Qpp p x).2 = 0) (h:K (.tup [.agg [.int .i64 p.size,.own (hp.length + 5) 37 0 (p.fs.length + 1),.int .i64 p.hand],.int .i64 0]) (hp ++ QCQ p x hp.length)):VCalls prog 184 [.agg p.d,.agg x.d] hp K:=by
  refine (VCalls.frame [] List.nodup_nil rfl rfl (Qyr p hl x hz) rfl rfl).mono ?_
  rintro r h2 ⟨r0,h',⟨rfl,rfl⟩,-,rfl,rfl⟩
  rw [Qih]
  have e1:Qdt (back [] hp.length) ⟨178,true,x.d⟩ = ⟨178,true,x.d⟩:=QaF rfl
  have e2:Qdt (back [] hp.length) ⟨182,true,Fm.d ⟨x,false,0,true⟩⟩ = ⟨182,true,Fm.d ⟨x,false,0,true⟩⟩:=QaF rfl
  have e3:Qdt (back [] hp.length) ⟨182,true,cells Qb8 (p.fs ++ [⟨x,false,0,true⟩])⟩ = ⟨182,true,cells Qb8 (p.fs ++ [⟨x,false,0,true⟩])⟩:=QaF (Qq _ _ _)
  simp only [QCQ,List.map_cons,List.map_nil,e1,e2,e3] at h |-
  exact h
theorem QBc (l:List Fm) (f:Fm) (b:Bool):(cells Qb8 (l ++ [f])).set (l.length * 37 + 34) (.pv (.lit (.bool b))) = cells Qb8 (l ++ [⟨f.pg,b,f.rc,f.used⟩]):=by
  rw [<- Qtm,<- Qtm,<- QCR l,List.set_append_right _ _ (Nat.le_add_right _ _),Nat.add_sub_cancel_left]; rfl
theorem QBb (l:List Fm) (f:Fm) (n:Int):(cells Qb8 (l ++ [f])).set (l.length * 37 + 35) (.pv (.lit (.int .i64 n))) = cells Qb8 (l ++ [⟨f.pg,f.dirty,n,f.used⟩]):=by
  rw [<- Qtm,<- Qtm,<- QCR l,List.set_append_right _ _ (Nat.le_add_right _ _),Nat.add_sub_cancel_left]; rfl
def QEe (k:Kn) (x:Pg) (a:Kn × Int):Prop:=a.1.sm/\(a.2 = 0->a.1.lg = k.lg/\a.1.tx = k.tx/\0<=idF a.1.pl.fs x.id)
theorem QvF (l:List Fm) (f:Fm):0<=idF (l ++ [f]) f.pg.id:=by
  obtain ⟨j,_,h,_⟩:=QwZ (l:=l ++ [f]) (a:=f.pg.id) ⟨l.length,by simp,by rw [List.getD_eq_getElem?_getD,List.getElem?_append_right (Nat.le_refl _),Nat.sub_self]; rfl⟩
  omega
theorem QqJ (k:Kn) (h:k.sm) (x:Pg):VCalls prog 140 [.agg k.d,.agg x.d] [] (QC kiD (QEe k x)):=by
  refine dk Tryz.func140 ?_
  have h':=h
  have c1:=QW k h
  have c2:=QlP k h x.id
  obtain ⟨h1,h2,h3,h4,h5,h6⟩:=h
  have c3:=Qyq k.pl (by omega) x
  have c4:=QfK k (by omega) x.id
  (unfold Tryz.f140; refine rn trivial ?_)
  refine rn F ?_
  repeat' (first
    | with_reducible exact ⟨⟩
    | (refine sG F ?_ ?_<;>intro hZ)
    | (refine sB F ?_ ?_<;>intro hZ)
    | (refine Qj (c1) rfl ?_; rintro b hb; refine rn F ?_)
    | (refine Qj (c2) rfl ?_; rintro n -; refine rn F ?_)
    | (refine Qb (id:=5) [0,1,2,3,4] [⟨[],[],5,[0,1,3],[6]⟩,⟨[],[],7,[0,1,2,3,4],[]⟩] (by kernel_rfl) (by kernel_rfl) ?_; refine rn F ?_)
    | (refine Qb (id:=7) [0,1,2,3,4] [⟨[],[],5,[0,1,3],[6]⟩,⟨[],[],7,[0,1,2,3,4],[]⟩] (by kernel_rfl) (by kernel_rfl) ?_; refine rn F ?_))
  all_goals first
    | exact ⟨rfl,rfl,(Kn0,_),rfl,QbC,fun h=>by simp at h⟩
    | skip
  have hpe:(Qpp k.pl x).2 ≠ 0->(Qpp k.pl x).1 = Pl0:=fun h=>by
    unfold Qpp at h |-
    repeat' split
    all_goals first | rfl | simp_all
  by_cases hz:(Qpp k.pl x).2 = 0
  rotate_left
  · rw [hpe hz] at c3
    have F:=@hz
    refine rn F ?_
    repeat' (first
      | with_reducible exact ⟨⟩
      | refine vp F (c3) ?_)
    exact ⟨rfl,rfl,(Kn0,_),rfl,QbC,fun h=>absurd h hz⟩
  refine QAS k.pl (by omega) x hz ?_
  obtain ⟨p1,p2,p3,p4⟩:=Qrv hz
  have hd:=Qkf p1
  simp only [Pl.hd] at hd
  unfold QCQ
  have s34:=QBc k.pl.fs
  have s35:=QBb k.pl.fs
  have hi0:=QvF k.pl.fs
  have hnn:k.pl.fs.length + 1 - 1 = k.pl.fs.length:=by omega
  have h34:(k.pl.fs.length * 37 + 34 < (k.pl.fs.length + 1) * 37) = True:=eq_true (by omega)
  have h35:(k.pl.fs.length * 37 + 35 < (k.pl.fs.length + 1) * 37) = True:=eq_true (by omega)
  have F:=(And.intro @s34 (And.intro @s35 (And.intro @hnn (And.intro @h34 @h35))))
  refine rn F ?_
  repeat' (first
    | with_reducible exact ⟨⟩
    | (refine sB F ?_ ?_<;>intro hZ)
    | (refine Qj (c4) rfl ?_; rintro ⟨d,b2⟩ -; refine rn F ?_))
  rotate_left
  · exact ⟨rfl,rfl,(⟨k.pg,k.nx,k.lg,⟨k.pl.size,k.pl.fs ++ [⟨x,false,0,true⟩],k.pl.hand⟩,k.lk,k.tx,k.ix,k.la⟩,0),rfl,⟨h1,by simp; omega,h3,h4,h5,h6⟩,fun _=>⟨rfl,rfl,hi0 ⟨x,false,0,true⟩⟩⟩
  refine VLoop.nilOwn 10 190 3 rfl ?_
  refine rn trivial ?_
  refine Qg (fun s:{s:Nat × List Dt // s.1<=k.la.length/\s.2.length<=s.1}=>⟨113,0,[(11,.int .i64 s.1.1),(10,.own 5 3 0 s.1.2.length),(6,.ptr 4 0),(4,.ptr 2 0),(3,.ptr 1 0),(2,.ptr 0 0)],
    [⟨41,true,k.d⟩,⟨178,true,x.d⟩,⟨41,true,[.int .i64 0,.int .i64 0,.int .i64 0,.pv (.slc []),.int .i64 0,.int .i64 0,.pv (.slc []),.int .i64 0,.pv (.slc []),.pv (.slc []),.pv (.slc []),.pv (.slc []),.pv (.slc [])]⟩,⟨182,true,cells Qb8 (k.pl.fs ++ [⟨x,true,d.rc,true⟩])⟩,⟨31,true,[.int .i64 k.pl.size,.own 3 37 0 (k.pl.fs.length + 1),.int .i64 k.pl.hand]⟩,⟨190,true,cells Qdm s.1.2⟩]⟩) (fun s=>k.la.length - s.1.1) ⟨(0,[]),by simp⟩ (gc [0,1,2,8,9,11]) ?_
  rintro ⟨⟨i,out⟩,hi,ho⟩
  dsimp only at hi ho |-
  have hy:=fun h:i < k.la.length=>Qfi k.la i h
  have hb:(out.length + 1) * 24<=140737488355328:=by omega
  have F:=(And.intro @hy @hb)
  refine rn F ?_
  repeat' (first
    | with_reducible exact ⟨⟩
    | (refine sB F ?_ ?_<;>intro hZ)
    | (refine Qb (id:=20) [0,1,2,3,4,5,6,7,8] [] (by kernel_rfl) (by kernel_rfl) ?_; refine rn F ?_))
  all_goals first
    | exact ⟨⟨(i + 1,out),by dsimp only; omega,by dsimp only; omega⟩,by dsimp only; omega,(gc [0,1,2,3,4,5])⟩
    | exact ⟨⟨(i + 1,out ++ [⟨(k.la.getD i Dt0).pg,(k.la.getD i Dt0).rc,(k.la.getD i Dt0).last⟩]),by dsimp only; omega,by simp; omega⟩,by dsimp only; omega,by dsimp only; rw [List.length_append]; exact (gc [0,1,2,3,4,7])⟩
    | exact ⟨rfl,rfl,(⟨k.pg,k.nx,k.lg,⟨k.pl.size,k.pl.fs ++ [⟨x,true,d.rc,true⟩],k.pl.hand⟩,k.lk,k.tx,k.ix,out⟩,0),rfl,⟨h1,by simp; omega,h3,h4,h5,by dsimp only; omega⟩,fun _=>⟨rfl,rfl,hi0 ⟨x,true,d.rc,true⟩⟩⟩
    | skip
end
theorem QDT (l:List (List UInt8)):(cells Qdn l).length = l.length * 1:=QS Qdn l
theorem QEI (l:List (List UInt8)) (n:Nat) (h:l.length * 1<=n):(cells Qdn l).take n = cells Qdn l:=by rw [List.take_of_length_le]; rw [QDT]; exact h
theorem QEf (l:List (List UInt8)):(fz Qdn l = []\/(fz Qdn l)[0]?.map List.length = some 1) = True:=Qfh Qdn l
theorem QEv {n:Nat} {hp:Qa} {len:Nat} {l:List (List UInt8)} (h:l.length = len):QkP n hp 0 1 len (some (cells Qdn l)) = some (.sl (fz Qdn l)):=QY Qdn h
attribute [go_sem] QDT QEI QEf QEv
theorem Qw2 (l:List (List UInt8)) (i:Nat) (h:i < l.length):(fz Qdn l)[i]? = some [.str (l.getD i [])]:=QcP Qdn l [] i h
theorem QDB (l:List (List UInt8)) (x:List UInt8):cells Qdn l ++ [.pv (.str x)] = cells Qdn (l ++ [x]):=by rw [QE]; rfl
theorem QD5 (l:List (List UInt8)):DV.wk.go (cells Qdn l) = cells Qdn l:=Qa2 Qdn l fun a p hp=>by
  simp [Qdn] at hp; subst hp; rfl
attribute [go_sem] QDB QD5
structure Dv where
  ps:List (List UInt8)
  wr:Int
  dead:Bool
@[go_sem] def Dv.d (v:Dv):List DV:=[.pv (.sl (fz Qdn v.ps)),.int .i64 v.wr,.pv (.sl []),.bool v.dead,.pv (.sl [])]
def Dv0:Dv:=⟨[],0,false⟩
def QD3 (v:Dv):Prop:=(1<=v.ps.length/\v.ps.length<=64)/\(0<=v.wr/\v.wr<=1099511627776)/\∀ i,i < v.ps.length->(v.ps.getD i []).length = 256
theorem Qrh (v:Dv) (hl:v.ps.length<=100000):VCalls prog 206 [.agg v.d] [] (QC boD fun b=>b = true->QD3 v):=by
  refine dd Tryz.func206 ?_
  (unfold Tryz.f206; refine rn trivial ?_)
  refine rn F ?_
  repeat' (first
    | with_reducible exact ⟨⟩
    | (refine sG F ?_ ?_<;>intro hZ))
  all_goals first
    | exact ⟨rfl,rfl,false,rfl,fun h=>by cases h⟩
    | skip
  refine Qg (fun s:Okay v.ps.length (fun i=>decide ((v.ps.getD i []).length = 256))=>⟨99,0,[(4,.int .i64 s.i),(3,.int .i64 v.ps.length),(1,.ptr 0 0)],[⟨82,true,v.d⟩]⟩) (fun s=>v.ps.length - s.i) (Okay.start _ _) (gc [0]) ?_
  intro s
  have hsi:=s.hi
  have hg:=fun h:s.i < v.ps.length=>Qw2 v.ps s.i h
  have F:=@hg
  refine rn F ?_
  repeat' (first
    | with_reducible exact ⟨⟩
    | (refine sB F ?_ ?_<;>intro hZ))
  all_goals first
    | exact ⟨rfl,rfl,false,rfl,fun h=>by cases h⟩
    | exact ⟨s.next (by omega) (decide_eq_true (by omega)),s.dec (by omega),(gc [0])⟩
    | skip
  have hall:=s.all (by omega)
  simp only [List.all_eq_true,List.mem_range,decide_eq_true_eq] at hall
  refine Qg (fun s:Unit=>⟨99,0,[(5,.int .i64 0),(3,.int .i64 v.ps.length),(1,.ptr 0 0)],[⟨82,true,v.d⟩]⟩) (fun s=>0) () (gc [0]) ?_
  intro _
  have F:=trivial
  refine rn F ?_
  refine Qg (fun s:Unit=>⟨99,0,[(6,.int .i64 0),(1,.ptr 0 0)],[⟨82,true,v.d⟩]⟩) (fun s=>0) () (gc [0]) ?_
  intro _
  have F:=trivial
  refine rn F ?_
  exact ⟨rfl,rfl,true,rfl,fun _=>⟨⟨by omega,by omega⟩,⟨by omega,by omega⟩,fun i hi=>hall i hi⟩⟩
def usQ (v:Dv) (n e:Int):Prop:=e = 0->QD3 v/\0<=n/\n < v.ps.length
theorem Qgj (v:Dv) (hl:v.ps.length<=100000) (n:Int):VCalls prog 159 [.agg v.d,.int .i64 n] [] (QC inD (usQ v n)):=by
  refine dd Tryz.func159 ?_
  have c1:=Qrh v hl
  unfold usQ
  (unfold Tryz.f159; refine rn trivial ?_)
  refine rn F ?_
  repeat' (first
    | with_reducible exact ⟨⟩
    | (refine sG F ?_ ?_<;>intro hZ)
    | (refine sB F ?_ ?_<;>intro hZ)
    | (refine Qj (c1) rfl ?_; rintro b hb; refine rn F ?_))
  all_goals first
    | exact ⟨rfl,rfl,_,rfl,fun h=>absurd h (by decide)⟩
    | exact ⟨rfl,rfl,0,rfl,fun _=>⟨hb (by assumption),by omega,by omega⟩⟩
    | skip
theorem QBo (n:Int):VCalls prog 181 [.pv (.sl []),.int .i64 n] [] (Ret (.bool false)):=by
  refine dd Tryz.func181 ?_
  (unfold Tryz.f181; refine rn trivial ?_)
  refine Qg (fun s:Unit=>⟨18,0,[(5,.int .i64 0),(1,.int .i64 n),(0,.pv (.sl []))],[]⟩) (fun s=>0) () (gc []) ?_
  intro _
  (refine rn F ?_; try with_reducible exact ⟨⟩)
theorem Qod (n:Int):VCalls prog 207 [.pv (.sl []),.int .i64 n] [] (Ret (.pv (.sl []))):=by
  refine dk Tryz.func207 ?_
  (unfold Tryz.f207; refine rn trivial ?_)
  refine VLoop.wkS ?_
  refine rn trivial ?_
  refine Qg (fun s:Unit=>⟨27,0,[(6,.int .i64 0),(5,.pv (.sl [])),(1,.int .i64 n),(0,.pv (.sl []))],[]⟩) (fun s=>0) () (gc []) ?_
  intro _
  (refine rn F ?_; try with_reducible exact ⟨⟩)
@[go_sem] def siD (a:List UInt8 × Int):DV:=.tup [.pv (.str a.1),.int .i64 a.2]
theorem QuX (v:Dv) (hl:v.ps.length<=100000) (n:Int):VCalls prog 136 [.agg v.d,.int .i64 n] [] (QC siD fun a=>a.2 = 0->a.1.length = 256):=by
  refine dd Tryz.func136 ?_
  have c1:=Qgj v hl n
  have c2:=QBo n
  (unfold Tryz.f136; refine rn trivial ?_)
  have hg:=fun h:n.toNat < v.ps.length=>Qw2 v.ps n.toNat h
  refine Qj c1 rfl ?_
  rintro e he
  by_cases h0:e = 0
  · obtain ⟨q1,q2,q3⟩:=he h0
    subst h0
    have F:=@hg
    refine rn F ?_
    repeat' (first
      | with_reducible exact ⟨⟩
      | refine vp F (c2) ?_)
    exact ⟨rfl,rfl,(v.ps.getD n.toNat [],0),rfl,fun _=>q1.2.2 _ (by omega)⟩
  · skip
    have F:=@h0
    refine rn F ?_
    exact ⟨rfl,rfl,([],e),rfl,fun h=>absurd h h0⟩
def cb (c:C):Blk:=⟨78,true,cc c⟩
abbrev CX (R:DV->Prop):DV->Qa->Prop:=fun r h'=>∃ B',h' = [B']/\B'.live = true/\DV.nums.go (fun _=>false) B'.cells = true/\r.nums (fun _=>false) = true/\(R r/\∃ c',B' = cb c')
theorem QH {g:FuncId} {args:List DV} {hp:Qa} {k:Nat} {c:C} {R:DV->Prop} {K:DV->Qa->Prop} (h:VCalls prog g (args.map (DV.ren fun _=>0)) [cb c] (CX R)) (hk:hp[k]? = some (cb c))
    (ha:DV.nums.go (fun i=>i == k) args = true) (hK:∀ r c',R r->K r (hp.set k (cb c'))):VCalls prog g args hp K:=
  (VCalls.ptr1 (R:=fun r B'=>R r/\∃ c',B' = cb c') hk rfl (Qam c) h ha).mono fun r h' ⟨B',e1,_,_,e2,e3⟩=>by subst e1; obtain ⟨c',rfl⟩:=e3; exact hK r c' e2
abbrev Nx (n:Nat):DV->Prop:=fun r=>∃ x:Nat,r = .int .i64 x/\x < n
theorem Qi3 (c:C) (n:Nat) (h1:1<=n) (hn:n<=256):VCalls prog 20 [.ptr 0 0,.int .i64 n] [cb c] (CX (Nx n)):=by
  refine dd Tryz.func20 ?_
  have ha:=c.ha
  have hl:=c.hl
  simp (config:={ maxSteps:=2000000 }) (implicitDefEqProofs:=false) (disch:=first | omega | assumption | (simp only []; done) | fail) only [go_sem,Nat.reduceAdd,Int.reduceAdd,Tryz.f20,cb,cc]
  refine QdB (by kernel_rfl) (by kernel_rfl) ?_
  by_cases a:c.at_ < c.l.length
  · simp (config:={ maxSteps:=2000000 }) (implicitDefEqProofs:=false) (disch:=first | omega | assumption | (simp only []; done) | fail) only [go_sem,↓reduceIte,reduceCtorEq,Nat.reduceAdd,Nat.reduceBEq,Int.reduceAdd,Int.reduceBEq]
    refine QdB (by kernel_rfl) (by kernel_rfl) ?_
    have hg:=Qmf c.l c.at_ a
    have hh:(c.l.getD c.at_ 0).toNat < 256:=UInt8.toNat_lt _
    simp (config:={ maxSteps:=2000000 }) (implicitDefEqProofs:=false) (disch:=first | omega | assumption | (simp only [List.length_cons,List.length_nil,Nat.zero_add]; done) | fail) only [go_sem,↓reduceIte,reduceCtorEq,Nat.reduceAdd,Nat.reduceLT,Nat.reduceBEq,Int.reduceLT,Int.reduceAdd,Int.reduceBEq,hg]
    obtain ⟨y,hy,hlt⟩:=QiG (c.l.getD c.at_ 0).toNat n h1
    refine ⟨_,rfl,rfl,rfl,rfl,⟨y,by rw [hy],hlt⟩,⟨c.l,c.at_ + 1,a,hl⟩,rfl⟩
  · simp (config:={ maxSteps:=2000000 }) (implicitDefEqProofs:=false) (disch:=first | omega | assumption | (simp only []; done) | fail) only [go_sem,↓reduceIte,reduceCtorEq,Nat.reduceAdd,Nat.reduceBEq,Int.reduceAdd,Int.reduceBEq]
    exact ⟨_,rfl,rfl,rfl,rfl,⟨0,rfl,h1⟩,c,rfl⟩
theorem QP (c:C) (n:Nat) (h1:1<=n) (hn:n<=1000000000):VCalls prog 20 [.ptr 0 0,.int .i64 n] [cb c] (CX (Nx n)):=by
  by_cases hs:n<=256
  · exact Qi3 c n h1 hs
  refine dd Tryz.func20 ?_
  have ha:=c.ha
  have hl:=c.hl
  simp (config:={ maxSteps:=2000000 }) (implicitDefEqProofs:=false) (disch:=first | omega | assumption | (simp only []; done) | fail) only [go_sem,Nat.reduceAdd,Int.reduceAdd,Tryz.f20,cb,cc]
  refine QdB (by kernel_rfl) (by kernel_rfl) ?_
  by_cases a:c.at_ < c.l.length
  · simp (config:={ maxSteps:=2000000 }) (implicitDefEqProofs:=false) (disch:=first | omega | assumption | (simp only []; done) | fail) only [go_sem,↓reduceIte,reduceCtorEq,Nat.reduceAdd,Nat.reduceBEq,Int.reduceAdd,Int.reduceBEq]
    refine QdB (by kernel_rfl) (by kernel_rfl) ?_
    have hg:=Qmf c.l c.at_ a
    have hh:(c.l.getD c.at_ 0).toNat < 256:=UInt8.toNat_lt _
    generalize hx:(c.l.getD c.at_ 0).toNat = x at hg hh
    simp (config:={ maxSteps:=2000000 }) (implicitDefEqProofs:=false) (disch:=first | omega | assumption | (simp only [List.length_cons,List.length_nil,Nat.zero_add]; done) | fail) only [go_sem,↓reduceIte,reduceCtorEq,Nat.reduceAdd,Nat.reduceLT,Nat.reduceBEq,Int.reduceLT,Int.reduceAdd,Int.reduceBEq,hg]
    refine QH (k:=0) (c:=⟨c.l,c.at_ + 1,a,hl⟩) (Qi3 _ 256 (by omega) (by omega)) rfl rfl ?_
    rintro r c' ⟨z,rfl,hz⟩
    simp (config:={ maxSteps:=2000000 }) (implicitDefEqProofs:=false) (disch:=first | omega | assumption | (simp only []; done) | fail) only [go_sem,Nat.reduceBEq,Int.reduceBEq,cb,cc]
    obtain ⟨y,hy,hlt⟩:=QiG (256 * x + z) n h1
    have e:(256 * (x:Int) + (z:Int)) = ((256 * x + z:Nat):Int):=by omega
    refine ⟨_,rfl,rfl,rfl,rfl,⟨y,by rw [e,hy],hlt⟩,c',rfl⟩
  · simp (config:={ maxSteps:=2000000 }) (implicitDefEqProofs:=false) (disch:=first | omega | assumption | (simp only []; done) | fail) only [go_sem,↓reduceIte,reduceCtorEq,Nat.reduceAdd,Nat.reduceBEq,Int.reduceAdd,Int.reduceBEq]
    exact ⟨_,rfl,rfl,rfl,rfl,⟨0,rfl,h1⟩,c,rfl⟩
theorem QrR (c:C) (m:Int) (h1:1<=m) (hn:m<=1000000000):VCalls prog 20 [.ptr 0 0,.int .i64 m] [cb c] (CX (Nx m.toNat)):=by
  have h:=QP c m.toNat (by omega) (by omega)
  rwa [show ((m.toNat:Nat):Int) = m by omega] at h
theorem QB5 (l:List UInt8) (most:Nat) (hm:1<=most) (h:most<=1000000) (hl:l.length<=9223372036854775807):VCalls prog 8 [.pv (.sl (fz QeY l)),.int .i64 most] [] fun r h'=>∃ B,h' = [B]/\r = .ptr 0 0/\B.live = true/\DV.nums.go (fun _=>false) B.cells = true/\∃ c,B = cb c:=by
  refine Qb9 (fn:=Tryz.f8) Tryz.func8 rfl (by kernel_rfl) (by simp [Tryz.f8]) ?_
  simp (config:={ maxSteps:=2000000 }) (implicitDefEqProofs:=false) (disch:=first | omega | assumption | (simp only []; done) | fail) only [go_sem,Nat.reduceAdd,Nat.reduceBEq,Int.reduceAdd,Int.reduceBEq,Tryz.f8]
  refine Qa7 (fun hc=>?_) (fun hc=>?_)<;>simp only [decide_eq_true_eq,decide_eq_false_iff_not,Bool.or_eq_true,Bool.and_eq_true,Bool.or_eq_false_iff,Bool.and_eq_false_imp,Bool.not_eq_true',Bool.not_eq_false',beq_iff_eq,beq_eq_false_iff_ne,bne_iff_ne,bne_eq_false_iff_eq,ne_eq] at hc
  · have hx:(fz QeY l)[0]?.map List.length = some 1:=Qsq QeY l (by omega)
    have ht:(fz QeY l).take most = fz QeY (l.take most):=Qsp QeY l most
    have hh:most<=(fz QeY l).length:=by rw [QkM]; omega
    have h0:(0:Nat)<=most:=by omega
    simp (config:={ maxSteps:=2000000 }) (implicitDefEqProofs:=false) (disch:=first | omega | assumption | (simp only []; done) | fail) only [go_sem,V.splice,↓reduceIte,Nat.reduceAdd,Nat.reduceLT,Nat.reduceLeDiff,Nat.reduceBEq,Int.reduceLT,Int.reduceAdd,Int.reduceBEq,ht]
    exact ⟨_,rfl,rfl,rfl,⟨l.take most,0,by omega,by rw [List.length_take]; omega⟩,rfl⟩
  · simp (config:={ maxSteps:=2000000 }) (implicitDefEqProofs:=false) (disch:=first | omega | assumption | (simp only []; done) | fail) only [go_sem,V.splice,↓reduceIte,Nat.reduceAdd,Nat.reduceLT,Nat.reduceLeDiff,Nat.reduceBEq,Int.reduceLT,Int.reduceAdd,Int.reduceBEq]
    exact ⟨_,rfl,rfl,rfl,⟨l,0,by omega,by omega⟩,rfl⟩
theorem QxQ {l:List UInt8} {most:Nat} {hp:Qa} {K:DV->Qa->Prop} (hm:1<=most) (h:most<=1000000) (hl:l.length<=9223372036854775807) (hK:∀ c,K (.ptr hp.length 0) (hp ++ [cb c])):VCalls prog 8 [.pv (.sl (fz QeY l)),.int .i64 most] hp K:=
  (VCalls.new (QB5 l most hm h hl) rfl).mono fun r h' ⟨B,e1,e2,_,_,c,e3⟩=>by subst e1 e2 e3; exact hK c
theorem Qr7 (c:C):VCalls prog 32 [.ptr 0 0] [cb c] (CX fun r=>∃ n:Int,r = .int .i64 n/\-9223372036854775808<=n/\n<=9223372036854775807):=by
  refine dd Tryz.func32 ?_
  simp (config:={ maxSteps:=2000000 }) (implicitDefEqProofs:=false) (disch:=first | omega | assumption | (simp only []; done) | fail) only [go_sem,Nat.reduceBEq,Int.reduceNeg,Int.reduceBEq,Tryz.f32]
  refine QH (k:=0) (c:=c) (QP c 10 (by omega) (by omega)) rfl rfl ?_
  rintro _ c1 ⟨z,rfl,hz⟩
  (try simp (config:={ maxSteps:=2000000 }) (implicitDefEqProofs:=false) (disch:=first | omega | assumption | (simp only []; done) | fail) only [go_sem,Int.reduceNeg])
  repeat' (first
    | (refine Qf2 (fun hZ=>?_) (fun hZ=>?_)<;>(try rw [hZ])<;>(try simp only [decide_eq_true_eq,decide_eq_false_iff_not,Bool.or_eq_true,Bool.and_eq_true,Bool.or_eq_false_iff,Bool.and_eq_false_imp,Bool.not_eq_true',Bool.not_eq_false',beq_iff_eq,beq_eq_false_iff_ne,bne_iff_ne,bne_eq_false_iff_eq,ne_eq,Bool.not_eq_eq_eq_not,Bool.not_true,Bool.not_false] at hZ)<;>(try (first | rw [(hZ:_ = false)] | rw [(hZ:_ = true)]))<;>skip)
    | (refine Qa7 (fun hZ=>?_) (fun hZ=>?_)<;>(try rw [hZ])<;>(try simp only [decide_eq_true_eq,decide_eq_false_iff_not,Bool.or_eq_true,Bool.and_eq_true,Bool.or_eq_false_iff,Bool.and_eq_false_imp,Bool.not_eq_true',Bool.not_eq_false',beq_iff_eq,beq_eq_false_iff_ne,bne_iff_ne,bne_eq_false_iff_eq,ne_eq,Bool.not_eq_eq_eq_not,Bool.not_true,Bool.not_false] at hZ)<;>(try (first | rw [(hZ:_ = false)] | rw [(hZ:_ = true)]))<;>(try simp (config:={ maxSteps:=2000000 }) (implicitDefEqProofs:=false) (disch:=first | omega | assumption | (simp only []; done) | fail) only [go_sem,V.splice,V.mk,↓reduceIte,Nat.reduceAdd,Nat.reduceLT,Nat.reduceLeDiff,Nat.reduceBEq,Int.reduceLT,Int.reduceNeg,Int.reduceAdd,Int.reduceBEq]))
    | (refine QhQ (fun hZ=>?_) (fun hZ=>?_)<;>(try rw [hZ])<;>(try simp only [decide_eq_true_eq,decide_eq_false_iff_not,Bool.or_eq_true,Bool.and_eq_true,Bool.or_eq_false_iff,Bool.and_eq_false_imp,Bool.not_eq_true',Bool.not_eq_false',beq_iff_eq,beq_eq_false_iff_ne,bne_iff_ne,bne_eq_false_iff_eq,ne_eq,Bool.not_eq_eq_eq_not,Bool.not_true,Bool.not_false] at hZ)<;>(try (first | rw [(hZ:_ = false)] | rw [(hZ:_ = true)]))<;>skip))
  · refine QH (k:=0) (c:=c1) (QP c1 3 (by omega) (by omega)) rfl rfl ?_
    rintro _ c2 ⟨y,rfl,hy⟩
    simp (config:={ maxSteps:=2000000 }) (implicitDefEqProofs:=false) (disch:=first | omega | assumption | (simp only []; done) | fail) only [go_sem,Int.reduceNeg]
    exact ⟨_,rfl,rfl,Qam _,rfl,⟨_,rfl,by omega,by omega⟩,c2,rfl⟩
  · refine QH (k:=0) (c:=c1) (QP c1 16 (by omega) (by omega)) rfl rfl ?_
    rintro _ c2 ⟨y,rfl,hy⟩
    have h:y = 0\/y = 1\/y = 2\/y = 3\/y = 4\/y = 5\/y = 6\/y = 7\/y = 8\/y = 9\/y = 10\/y = 11\/y = 12\/y = 13\/y = 14\/y = 15:=by omega
    rcases h with rfl | rfl | rfl | rfl | rfl | rfl | rfl | rfl | rfl | rfl | rfl | rfl | rfl | rfl | rfl | rfl<;>(simp (config:={ maxSteps:=2000000 }) (implicitDefEqProofs:=false) (disch:=first | omega | assumption | (simp only []; done) | fail) only [go_sem,Nat.reduceBEq,Int.reduceNeg,Int.reduceBEq]; exact ⟨_,rfl,rfl,Qam _,rfl,⟨_,rfl,by omega,by omega⟩,c2,rfl⟩)
  · refine QH (k:=0) (c:=c1) (QP c1 20 (by omega) (by omega)) rfl rfl ?_
    rintro _ c2 ⟨y,rfl,hy⟩
    simp (config:={ maxSteps:=2000000 }) (implicitDefEqProofs:=false) (disch:=first | omega | assumption | (simp only []; done) | fail) only [go_sem,Int.reduceNeg]
    exact ⟨_,rfl,rfl,Qam _,rfl,⟨_,rfl,by omega,by omega⟩,c2,rfl⟩
theorem QCW:bts prog 22 9 = true:=by kernel_rfl
section
attribute [local go_sem] QaZ
theorem Qqb {P:Program} {g:FuncId} {args args0:List DV} {hp:Qa} {K:DV->Qa->Prop} {r0 r2:DV} {B B':Blk} (k:Nat) (c:VCalls P g args0 [B] fun r h'=>r = r0/\h' = [B']) (hk:hp[k]? = some B) (hB:B.live = true/\DV.nums.go (fun _=>false) B.cells = true) (hB':DV.nums.go (fun _=>false) B'.cells = true)
    (ha0:args0 = args.map (DV.ren fun j=>[k].idxOf j)) (ha:DV.nums.go [k].contains args = true) (hr:r0.ren (back [k] hp.length) = r2) (h:K r2 (hp.set k B')):VCalls P g args hp K:=by
  subst hr
  have hlt:k < hp.length:=(List.getElem?_eq_some_iff.1 hk).1
  have hg:hp.getD k default = B:=by rw [List.getD_eq_getElem?_getD,hk]; rfl
  have hpl:Qgt hp [k]:=⟨⟨hlt,by rw [hg]; exact hB.2⟩,trivial⟩
  refine (VCalls.frame [k] (by simp) (by rw [QcJ hpl]; simp only [List.map_cons,List.map_nil,hg]) (QcK hpl) c ha0 ha).mono ?_
  rintro r h2 ⟨r1,h',⟨rfl,rfl⟩,-,rfl,rfl⟩
  rw [Qpc hlt,List.map_nil,List.append_nil,QaF hB']
  exact h
def dvO (k n:Nat) (wr:Int) (dead:Bool):DV:=.agg [.own k 1 0 n,.int .i64 wr,.pv (.sl []),.bool dead,.pv (.sl [])]
theorem Qx7 (l:List (List UInt8)) (i:Nat) (s:List UInt8) (h:i < l.length):(cells Qdn l).set i (.pv (.str s)) = cells Qdn (l.set i s):=by
  rw [Qta,Qta,List.map_set]
theorem QmV (ps:List (List UInt8)) (wr:Int) (dead:Bool) (i:Nat) (hi:i < ps.length) (h6:(ps.getD i []).length = 256) (s:List UInt8) (n:Nat) (hn:n<=256) (hs:s.length = 256) :
    VCalls prog 161 [dvO 0 ps.length wr dead,.int .i64 i,.pv (.str s),.int .i64 n] [⟨9,true,cells Qdn ps⟩] (fun r h'=>r = dvO 0 ps.length wr dead/\h' = [⟨9,true,cells Qdn (ps.set i (s.take n ++ (ps.getD i []).drop n))⟩]):=by
  unfold dvO
  refine dd Tryz.func161 ?_
  have c1:=Qod i
  have hg:=Qo7 ps i hi
  have hse:=fun s=>Qx7 ps i s hi
  generalize ps.getD i [] = q at *
  (unfold Tryz.f161; refine rn trivial ?_)
  have hlt:(i < ps.length) = True:=eq_true hi
  have F:=(And.intro @hg (And.intro @hse @hlt))
  refine rn F ?_
  repeat' (first
    | with_reducible exact ⟨⟩
    | refine vp F (c1) ?_
    | (refine Qb (id:=1) [0,1,2,3,4,5,6,7,8,9,10,11,12,13,14] [⟨[],[],15,[],[]⟩] (by kernel_rfl) (by kernel_rfl) ?_; refine rn F ?_))
  all_goals exact ⟨rfl,rfl⟩
def cpD (o:Nat) (v:Dv):List DV:=[.own (o + 2) 1 0 v.ps.length,.int .i64 v.wr,.own (o + 3) 1 0 0,.bool v.dead,.own (o + 4) 6 0 0]
def QoZ (v:Dv) (o:Nat):Qa:=[⟨82,true,cpD o v⟩,⟨82,true,cpD o v⟩,⟨9,true,cells Qdn v.ps⟩,⟨3,true,[]⟩,⟨254,true,[]⟩]
theorem QyE (v:Dv) (hl:v.ps.length<=100000):VCalls prog 160 [.agg v.d] [] fun r h'=>r = .agg (cpD 0 v)/\h' = QoZ v 0:=by
  refine Qb9 (fn:=Tryz.f160) Tryz.func160 rfl (by kernel_rfl) (by simp [Tryz.f160]) ?_
  unfold cpD QoZ
  have hb:v.ps.length * 16<=140737488355328:=by omega
  (unfold Tryz.f160; refine rn trivial ?_)
  have F:=@hb
  (refine rn F ?_; try with_reducible exact ⟨⟩)
  all_goals first | rfl | exact ⟨rfl,rfl⟩
theorem Qqc {hp:Qa} {K:DV->Qa->Prop} (v:Dv) (hl:v.ps.length<=100000) (h:K (.agg (cpD hp.length v)) (hp ++ QoZ v hp.length)):VCalls prog 160 [.agg v.d] hp K:=by
  refine (VCalls.frame [] List.nodup_nil rfl rfl (QyE v hl) rfl rfl).mono ?_
  rintro r h2 ⟨r0,h',⟨rfl,rfl⟩,-,rfl,rfl⟩
  rw [Qih]
  have e3:Qdt (back [] hp.length) ⟨9,true,cells Qdn v.ps⟩ = ⟨9,true,cells Qdn v.ps⟩:=QaF (Qq _ _ _)
  simp only [QoZ,List.map_cons,List.map_nil,e3] at h |-
  exact h
@[go_sem] def dvD (a:Dv × Int):DV:=.tup [.agg a.1.d,.int .i64 a.2]
def dvQ (a:Dv × Int):Prop:=a.1.ps.length<=64
theorem Qyg (v:Dv) (hl:v.ps.length<=100000) (pg:Int) (s:List UInt8) (hs0:s.length<=1000000) (n:Int):VCalls prog 130 [.agg v.d,.int .i64 pg,.pv (.str s),.int .i64 n] [] (QC dvD dvQ):=by
  refine dk Tryz.func130 ?_
  have c1:=Qgj v hl pg
  (unfold Tryz.f130; refine rn trivial ?_)
  refine Qj c1 rfl ?_
  rintro e he
  by_cases h0:e = 0
  rotate_left
  · skip
    have F:=@h0
    refine rn F ?_
    exact ⟨rfl,rfl,(Dv0,e),rfl,Nat.zero_le _⟩
  obtain ⟨q1,q2,q3⟩:=he h0
  subst h0
  have F:=trivial
  refine rn F ?_
  repeat' (first
    | with_reducible exact ⟨⟩
    | (refine sG F ?_ ?_<;>intro hZ)
    | (refine sB F ?_ ?_<;>intro hZ))
  all_goals first
    | exact ⟨rfl,rfl,(Dv0,_),rfl,Nat.zero_le _⟩
    | skip
  obtain ⟨i,rfl⟩:∃ i:Nat,pg = i:=⟨pg.toNat,by omega⟩
  obtain ⟨m,rfl⟩:∃ m:Nat,n = m:=⟨n.toNat,by omega⟩
  have hi:i < v.ps.length:=by omega
  refine Qqc v hl ?_
  unfold QoZ cpD
  refine rn trivial ?_
  refine VCalls.neA ?_
  have hpos:0 < v.ps.length:=by omega
  simp only [List.map_cons,List.map_nil,DV.ne,QrS hpos,Qni,QwT]
  refine Qqb 4 (QmV v.ps v.wr v.dead i hi (q1.2.2 i hi) s m (by omega) (by omega)) rfl ⟨rfl,Qq _ _ _⟩ (Qq _ _ _) rfl rfl (r2:=dvO 4 v.ps.length v.wr v.dead) rfl ?_
  unfold dvO
  have hle:∀ x,(v.ps.set i x).length = v.ps.length:=fun x=>List.length_set
  have F:=@hle
  refine rn F ?_
  exact ⟨rfl,rfl,(⟨v.ps.set i (s.take m ++ (v.ps.getD i []).drop m),v.wr,v.dead⟩,0),rfl,by unfold dvQ; dsimp only; rw [hle]; exact q1.1.2⟩
theorem Qrp (n:Int) (hn:n<=64):VCalls prog 88 [.int .i64 n] [] (QC (fun l:List (List UInt8)=>.pv (.sl (fz Qdn l))) fun l=>l.length<=64):=by
  refine dk Tryz.func88 ?_
  (unfold Tryz.f88; refine rn trivial ?_)
  refine VLoop.nilOwn 3 9 1 rfl ?_
  refine rn trivial ?_
  refine Qg (fun s:{s:Nat × List (List UInt8) // s.1<=64/\s.2.length = s.1}=>⟨16,0,[(4,.int .i64 s.1.1),(3,.own 0 1 0 s.1.2.length),(0,.int .i64 n)],[⟨9,true,cells Qdn s.1.2⟩]⟩) (fun s=>64 - s.1.1) ⟨(0,[]),by simp⟩ (gc [0]) ?_
  rintro ⟨⟨i,out⟩,hi,ho⟩
  dsimp only at hi ho |-
  have hb:(out.length + 1) * 16<=140737488355328:=by omega
  have hm:(((1:Nat):Int) * 256<=281474976710656) = True:=eq_true (by decide)
  have hcw:=fun (hp:Qa) (k o n:Nat)=>Qev (hp:=hp) (k:=k) (off:=o) (len:=n) QCW
  have hcv:∀ hp:Qa,QxL hp 0 256 (some (cells QeY (List.replicate 256 0))) = some (.pv (.str (List.replicate 256 0)),hp):=fun hp=>Qc2 (by simp)
  have F:=(And.intro @hb (And.intro @hm (And.intro @hcw @hcv)))
  refine rn F ?_
  repeat' (first
    | with_reducible exact ⟨⟩
    | (refine sB F ?_ ?_<;>intro hZ))
  all_goals first
    | exact ⟨⟨(i + 1,out ++ [List.replicate 256 0]),by dsimp only; omega,by simp; omega⟩,by dsimp only; omega,by dsimp only; rw [List.length_append]; exact (gc [3])⟩
    | exact ⟨rfl,rfl,out,rfl,by omega⟩
    | skip
end
section
attribute [local go_sem] QaZ
theorem Qrg (v:Dv) (hl:v.ps.length<=100000) (pg:Int) (s:List UInt8) (hs0:s.length<=1000000):VCalls prog 125 [.agg v.d,.int .i64 pg,.pv (.str s)] [] (QC dvD dvQ):=by
  refine dk Tryz.func125 ?_
  have c1:=Qgj v hl pg
  (unfold Tryz.f125; refine rn trivial ?_)
  refine Qj c1 rfl ?_
  rintro e he
  by_cases h0:e = 0
  rotate_left
  · skip
    have F:=@h0
    refine rn F ?_
    exact ⟨rfl,rfl,(Dv0,e),rfl,Nat.zero_le _⟩
  obtain ⟨q1,q2,q3⟩:=he h0
  subst h0
  have F:=trivial
  refine rn F ?_
  repeat' (first
    | with_reducible exact ⟨⟩
    | (refine sB F ?_ ?_<;>intro hZ))
  all_goals first
    | exact ⟨rfl,rfl,(Dv0,_),rfl,Nat.zero_le _⟩
    | skip
  obtain ⟨i,rfl⟩:∃ i:Nat,pg = i:=⟨pg.toNat,by omega⟩
  have hi:i < v.ps.length:=by omega
  have hwr:=q1.2.1
  refine Qqc v hl ?_
  unfold QoZ cpD
  have F:=trivial
  refine rn F ?_
  refine Qg (fun _:Unit=>⟨166,0,[(11,.int .i64 0),(10,.pv (.slc [])),(9,.ptr 4 0),(6,.ptr 1 0),(3,.ptr 0 0),(2,.pv (.str s)),(1,.int .i64 i)],[⟨82,true,v.d⟩,⟨82,true,[.pv (.slc []),.int .i64 0,.pv (.slc []),.bool false,.pv (.slc [])]⟩,⟨9,true,cells Qdn v.ps⟩,⟨3,true,[]⟩,⟨82,true,[.own 2 1 0 v.ps.length,.int .i64 (v.wr + 1),.own 3 1 0 0,.bool v.dead,.pv (.slc [])]⟩]⟩) (fun _=>0) () (gc [0,1,4,5,7]) ?_
  intro _
  have F:=trivial
  refine rn F ?_
  refine Qg (fun _:Unit=>⟨166,0,[(13,.int .i64 0),(12,.bool false),(10,.pv (.slc [])),(9,.ptr 3 0),(6,.ptr 0 0),(2,.pv (.str s)),(1,.int .i64 i)],[⟨82,true,[.pv (.slc []),.int .i64 0,.pv (.slc []),.bool false,.pv (.slc [])]⟩,⟨9,true,cells Qdn v.ps⟩,⟨3,true,[]⟩,⟨82,true,[.own 1 1 0 v.ps.length,.int .i64 (v.wr + 1),.own 2 1 0 0,.bool v.dead,.pv (.slc [])]⟩]⟩) (fun _=>0) () (gc [1,2,3,4]) ?_
  intro _
  have F:=trivial
  refine rn F ?_
  refine VCalls.wkA (VCalls.neA ?_)
  have hpos:0 < v.ps.length:=by omega
  refine rn trivial ?_
  simp only [List.map_cons,List.map_nil,DV.ne,QrS hpos,Qni,QwT,DV.wk,DV.wk.go,PV.wk]
  refine Qqb 1 (QmV v.ps (v.wr + 1) v.dead i hi (q1.2.2 i hi) s 256 (by omega) (by omega)) rfl ⟨rfl,Qq _ _ _⟩ (Qq _ _ _) rfl rfl (r2:=dvO 1 v.ps.length (v.wr + 1) v.dead) rfl ?_
  unfold dvO
  have hle:∀ x,(v.ps.set i x).length = v.ps.length:=fun x=>List.length_set
  have F:=@hle
  refine rn F ?_
  have hlL:=hle (s.take 256 ++ (v.ps.getD i []).drop 256)
  generalize v.ps.set i (s.take 256 ++ (v.ps.getD i []).drop 256) = L at *
  refine Qg (fun _:Unit=>⟨166,0,[(14,.int .i64 0),(10,.pv (.slc [])),(9,.ptr 2 0),(6,.ptr 0 0)],[⟨82,true,[.pv (.slc []),.int .i64 0,.pv (.slc []),.bool false,.pv (.slc [])]⟩,⟨9,true,cells Qdn L⟩,⟨82,true,[.own 1 1 0 v.ps.length,.int .i64 (v.wr + 1),.pv (.sl []),.bool v.dead,.pv (.sl [])]⟩]⟩) (fun _=>0) () (gc [0,1,3]) ?_
  intro _
  have F:=@hlL
  refine rn F ?_
  exact ⟨rfl,rfl,(⟨L,v.wr + 1,v.dead⟩,0),rfl,by unfold dvQ; have:=q1.1.2; dsimp only; omega⟩
end
section
attribute [local go_sem] QaZ
theorem QiJ (n:Nat) (hn:n<=1000):VCalls prog 157 [.int .i64 n] [] (Ret (.pv (.str (List.replicate n 0)))):=by
  refine dd Tryz.func157 ?_
  have hm:(((1:Nat):Int) * (n:Int)<=281474976710656) = True:=eq_true (by omega)
  have hm2:((n:Int) * ((1:Nat):Int)<=281474976710656) = True:=eq_true (by omega)
  have hcw:=fun (hp:Qa) (k o n:Nat)=>Qev (hp:=hp) (k:=k) (off:=o) (len:=n) QCW
  have hcv:∀ hp:Qa,QxL hp 0 n (some (cells QeY (List.replicate n 0))) = some (.pv (.str (List.replicate n 0)),hp):=fun hp=>Qc2 (by simp)
  have hm3:((0:Int)<=(n:Int)/\(n:Int)<=(n:Int)/\(n:Int)<=9223372036854775807) = True:=eq_true ⟨by omega,by omega,by omega⟩
  (unfold Tryz.f157; refine rn (And.intro @hm (And.intro @hm2 (And.intro @hm3 (And.intro @hcw @hcv)))) ?_; try with_reducible exact ⟨⟩)
theorem Qu3:VCalls prog 253 [] [] (Ret (.pv (.str (List.replicate 256 0)))):=by
  refine dd Tryz.func253 ?_
  have c1:=QiJ 256 (by omega)
  (unfold Tryz.f253; refine rn trivial ?_)
  refine rn F ?_
  repeat' (first
    | with_reducible exact ⟨⟩
    | refine vp F (c1) ?_)
theorem Qz0 (x:Pg) (i:Nat) (h:i < 16):x.d[2 + i * 2 + 1]? = some (.pv (.str (x.cel i).data)):=by
  have:i = 0\/i = 1\/i = 2\/i = 3\/i = 4\/i = 5\/i = 6\/i = 7\/i = 8\/i = 9\/i = 10\/i = 11\/i = 12\/i = 13\/i = 14\/i = 15:=by omega
  rcases this with h | h | h | h | h | h | h | h | h | h | h | h | h | h | h | h<;>subst h<;>rfl
theorem QyX {p:Pg} (h:QaI p = 0) (i:Nat) (hi:i < 16):(p.cel i).data.length<=12:=by
  have:=Qs7 h
  unfold Pg.okB Pg.celB at this
  simp only [Bool.and_eq_true,List.all_eq_true,List.mem_range] at this
  have:=this.2 i hi
  unfold Pg.celC Ce.okB at this
  simp only [Bool.and_eq_true,decide_eq_true_eq] at this
  exact this.1.1
theorem QlL (p:Pg):VCalls prog 124 [.agg p.d] [] (QC siD fun a=>a.1.length<=256):=by
  refine dd Tryz.func124 ?_
  have c1:=Qdb p
  have hcel:=QyX (p:=p)
  by_cases hk:QaI p = 0
  rotate_left
  · generalize QaI p = k at *
    (unfold Tryz.f124; refine rn trivial ?_)
    have F:=@hk
    refine rn F ?_
    repeat' (first
      | with_reducible exact ⟨⟩
      | refine vp F (c1) ?_)
    exact ⟨rfl,rfl,([],k),rfl,Nat.zero_le _⟩
  rw [hk] at c1
  have hcel:=hcel hk
  have c2:=QbT [] (by simp) p.lsn 8 (by omega) (by omega)
  have c3:=QbT (Qan [] p.lsn 8) (by rw [Qo]; simp) p.id 4 (by omega) (by omega)
  have hl0:(Qan (Qan [] p.lsn 8) p.id 4).length = 12:=by rw [Qo,Qo]; rfl
  (unfold Tryz.f124; refine rn trivial ?_)
  have F:=trivial
  refine rn F ?_
  repeat' (first
    | with_reducible exact ⟨⟩
    | refine vp F (c1) ?_
    | refine vp F (c2) ?_
    | refine vp F (c3) ?_)
  generalize Qan (Qan [] p.lsn 8) p.id 4 = s0 at *
  refine Qg (fun s:{s:Nat × List UInt8 // s.1<=16/\s.2.length = 12 + 13 * s.1}=>⟨69,0,[(6,.int .i64 s.1.1),(5,.pv (.str s.1.2)),(1,.ptr 0 0)],[⟨178,true,p.d⟩]⟩) (fun s=>16 - s.1.1) ⟨(0,s0),by simp; exact hl0⟩ (gc [0]) ?_
  rintro ⟨⟨i,t⟩,hi,ht⟩
  dsimp only at hi ht |-
  have hg:=fun h:i < 16=>QnB p i h
  have hg0:=fun h:i < 16=>Qtc p i h
  have hg1:=fun h:i < 16=>Qz0 p i h
  have hdl:=fun h:i < 16=>hcel i h
  generalize p.cel i = c at *
  have d1:=fun n=>QbT t (by omega) n 1 (by omega) (by omega)
  have hpl:=fun n=>Qo t n 1
  by_cases hi16:i < 16
  · have hdl:=hdl hi16
    have d2:=QiJ (12 - c.data.length) (by omega)
    rw [show ((12 - c.data.length:Nat):Int) = 12 - (c.data.length:Int) by omega] at d2
    have hcd:(c.data ++ List.replicate (12 - c.data.length) (0:UInt8)).length = 12:=by rw [List.length_append,List.length_replicate]; omega
    have hadd:=fun n=>QcD (a:=Qan t n 1) (b:=c.data ++ List.replicate (12 - c.data.length) (0:UInt8)) (by rw [hpl,hcd]; omega)
    have F:=(And.intro @hg (And.intro @hg0 (And.intro @hg1 @hadd)))
    refine rn F ?_
    repeat' (first
      | with_reducible exact ⟨⟩
      | (refine sB F ?_ ?_<;>intro hZ)
      | refine vp F (d1 _) ?_
      | refine vp F (d2) ?_
      | (refine Qb (id:=13) [0,1,2,3,4,5,6,7,8,9,10,11,12] [⟨[],[],13,[0,1,2,3,4,5,6,7,8,9,10,11],[14,15]⟩,⟨[],[],16,[],[]⟩] (by kernel_rfl) (by kernel_rfl) ?_; refine rn F ?_))
    · exact ⟨⟨(i + 1,Qan t c.data.length 1 ++ (c.data ++ List.replicate (12 - c.data.length) 0)),by dsimp only; omega,by dsimp only; rw [List.length_append,List.length_append,List.length_replicate,hpl]; omega⟩,by dsimp only; omega,(gc [0])⟩
    · exact ⟨⟨(i + 1,Qan t 255 1 ++ (c.data ++ List.replicate (12 - c.data.length) 0)),by dsimp only; omega,by dsimp only; rw [List.length_append,List.length_append,List.length_replicate,hpl]; omega⟩,by dsimp only; omega,(gc [0])⟩
  · have hi:i = 16:=by omega
    subst hi
    have d2:=QiJ (244 - t.length) (by omega)
    rw [show ((244 - t.length:Nat):Int) = 244 - (t.length:Int) by omega] at d2
    have hle:(t ++ List.replicate (244 - t.length) (0:UInt8)).length = 244:=by rw [List.length_append,List.length_replicate]; omega
    obtain ⟨u,hu⟩:∃ u,t ++ List.replicate (244 - t.length) (0:UInt8) = u:=⟨_,rfl⟩
    rw [hu] at hle
    have d3:=QmR u (by omega)
    have d4:=fun n=>QbT u (by omega) n 4 (by omega) (by omega)
    have hu4:=fun n=>Qo u n 4
    have d5:=fun n m=>QbT (Qan u n 4) (by rw [hu4]; omega) m 8 (by omega) (by omega)
    have F:=@hu
    refine rn F ?_
    repeat' (first
      | with_reducible exact ⟨⟩
      | refine vp F (d2) ?_
      | refine vp F (d3) ?_
      | refine vp F (d4 _) ?_
      | refine vp F (d5 _ _) ?_)
    exact ⟨rfl,rfl,(Qan (Qan u _ 4) _ 8,0),rfl,by dsimp only; rw [Qo,hu4]; omega⟩
end
section
attribute [local go_sem] QaZ
@[go_sem] def piD (a:Pg × Int):DV:=.tup [.agg a.1.d,.int .i64 a.2]
theorem QuG (n:Int):VCalls prog 229 [.int .i64 n] [] (Ret (.agg (Pg.d ⟨n,0,fun _=>Ce0⟩))):=by
  refine dd Tryz.func229 ?_
  (unfold Tryz.f229; refine rn trivial ?_)
  rfl
theorem Qyt (s:List UInt8) (hs:s.length<=1000000):VCalls prog 228 [.pv (.str s)] [] (QC piD fun _=>True):=by
  refine dd Tryz.func228 ?_
  have c1:=Qu3
  (unfold Tryz.f228; refine rn trivial ?_)
  by_cases hl:s.length = 256
  rotate_left
  · have hl':¬ (s.length:Int) = 256:=by omega
    have F:=@hl'
    refine rn F ?_
    exact ⟨rfl,rfl,(Pg0,2),rfl,trivial⟩
  have c2:=fun (a k:Nat) (h:1<=k/\k<=8) (hh:a + k<=s.length)=>QhY s (by omega) a k h hh
  have g1:=c2 244 4 (by omega) (by omega)
  have g2:=c2 0 8 (by omega) (by omega)
  have g3:=c2 8 4 (by omega) (by omega)
  have c3:=fun u h=>QmR u h
  have c4:=QlL
  have F:=@hl
  refine rn F ?_
  repeat' (first
    | with_reducible exact ⟨⟩
    | (refine sB F ?_ ?_<;>intro hZ)
    | refine vp F (c1) ?_
    | refine vp F (g1) ?_
    | refine vp F (g2) ?_
    | refine vp F (g3) ?_
    | (refine vp F (c3 _ (by simp; omega)) ?_)
    | (refine Qb (id:=5) [0,1,2,3,4] [⟨[],[],5,[0,1,2,3],[]⟩] (by kernel_rfl) (by kernel_rfl) ?_; refine rn F ?_))
  all_goals first
    | exact ⟨rfl,rfl,(Pg0,_),rfl,trivial⟩
    | skip
  refine Qg (fun r:{r:Nat × Pg // r.1<=16}=>⟨95,0,[(7,.int .i64 r.1.1),(6,.ptr 1 0),(2,.ptr 0 0),(0,.pv (.str s))],[⟨178,true,Pg0.d⟩,⟨178,true,r.1.2.d⟩]⟩) (fun r=>16 - r.1.1) ⟨(0,⟨IntKind.i64.wrap (Qlf s 8 4),IntKind.i64.wrap (Qlf s 0 8),fun _=>Ce0⟩),by simp⟩ (gc [0,1]) ?_
  rintro ⟨⟨i,p⟩,hi⟩
  dsimp only at hi |-
  have hgs:i < 16->s[12 + i * 13]? = some (s.getD (12 + i * 13) 0):=fun h=>by rw [List.getD_eq_getElem?_getD,List.getElem?_eq_getElem (by omega)]; rfl
  have hix:(12 + (i:Int) * 13).toNat = 12 + i * 13:=by omega
  have hce:=fun (h:i < 16) b d=>Qjc p i h ⟨b,d⟩
  generalize hq:s.getD (12 + i * 13) 0 = q at *
  have hqb:=q.toNat_lt
  have c5:=c4 p
  have F:=(And.intro @hgs (And.intro @hix (And.intro @hce @hl)))
  refine rn F ?_
  repeat' (first
    | with_reducible exact ⟨⟩
    | (refine sG F ?_ ?_<;>intro hZ)
    | (refine sB F ?_ ?_<;>intro hZ)
    | (refine Qj (c5) rfl ?_; rintro ⟨t,e⟩ -; refine rn F ?_))
  all_goals first
    | exact ⟨rfl,rfl,(Pg0,_),rfl,trivial⟩
    | exact ⟨rfl,rfl,(p,0),rfl,trivial⟩
    | exact ⟨⟨(i + 1,p),by dsimp only; omega⟩,by dsimp only; omega,(gc [0,1])⟩
    | exact ⟨⟨(i + 1,p.setc i ⟨true,List.drop (12 + (i:Int) * 13 + 1).toNat (List.take (12 + (i:Int) * 13 + 1 + q.toNat).toNat s)⟩),by dsimp only; omega⟩,by dsimp only; omega,(gc [0,1])⟩
    | skip
theorem QuR (s:List UInt8) (hs:s.length<=1000000) (n:Int):VCalls prog 182 [.pv (.str s),.int .i64 n] [] (QC piD fun a=>a.2 = 0->a.1.id = n):=by
  refine dd Tryz.func182 ?_
  have c1:=Qyt s hs
  have c2:=QuG n
  (unfold Tryz.f182; refine rn trivial ?_)
  refine rn F ?_
  repeat' (first
    | with_reducible exact ⟨⟩
    | (refine sG F ?_ ?_<;>intro hZ)
    | (refine sB F ?_ ?_<;>intro hZ)
    | (refine Qj (c1) rfl ?_; rintro ⟨p,e⟩ -; refine rn F ?_)
    | refine vp F (c2) ?_)
  all_goals first
    | exact ⟨rfl,rfl,(Pg0,_),rfl,fun h=>by simp at h⟩
    | exact ⟨rfl,rfl,(⟨n,0,fun _=>Ce0⟩,0),rfl,fun _=>rfl⟩
    | exact ⟨rfl,rfl,(p,e),rfl,fun h=>by dsimp only at h |-; omega⟩
    | skip
theorem QuN (l:List Rw) (hl:l.length<=64) (n hd:Int) (s:List UInt8) (hs:s.length<=1000000):VCalls prog 138 [.agg [.pv (.sl (fz QbN l))],.int .i64 n,.int .i64 hd,.pv (.str s)] [] (QC piD fun a=>a.2 = 0->a.1.id = n):=by
  refine dd Tryz.func138 ?_
  have c1:=QaV l (by omega)
  have c2:=QuR s hs n
  have hg:=fun h:n.toNat < l.length=>QkN l n.toNat h
  generalize ixB l = b at *
  (unfold Tryz.f138; refine rn trivial ?_)
  have F:=@hg
  refine rn F ?_
  repeat' (first
    | with_reducible exact ⟨⟩
    | (refine sG F ?_ ?_<;>intro hZ)
    | (refine sB F ?_ ?_<;>intro hZ)
    | refine vp F (c1) ?_
    | (refine Qj (c2) rfl ?_; rintro ⟨p,e⟩ hp; refine rn F ?_)
    | (refine Qb (id:=8) [0,1,2,3,4,5,6,7,8,9,10,11,12,13,14] [⟨[],[],15,[0,1,2,3,5,6,7,8,9,10,11,12,13],[]⟩] (by kernel_rfl) (by kernel_rfl) ?_; refine rn F ?_)
    | (refine Qb (id:=10) [0,1,2,3,4,5,6,7,8] [⟨[],[],9,[0,1,2,3,4,5,6,7],[]⟩] (by kernel_rfl) (by kernel_rfl) ?_; refine rn F ?_))
  all_goals first
    | exact ⟨rfl,rfl,(Pg0,e),rfl,fun h=>absurd h (by assumption)⟩
    | (focus (refine ⟨rfl,rfl,(Pg0,_),rfl,fun h=>?_⟩; simp at h; done))
    | exact ⟨rfl,rfl,(p,0),rfl,fun _=>hp (by dsimp only; omega)⟩
    | skip
end
section
attribute [local go_sem] QaZ
theorem QDw (e:E) (l:List E):(.pv (.lit (.int .i64 e.lsn)) :: .pv (.lit (.int .i64 e.kind)) :: .pv (.lit (.int .i64 e.tx)) :: .pv (.lit (.int .i64 e.ptx)) :: .pv (.lit (.int .i64 e.ppg)) :: .pv (.lit (.int .i64 e.ref)) :: .pv (.lit (.int .i64 e.c.pg)) :: .pv (.lit (.int .i64 e.c.sl)) :: .pv (.lit (.bool e.c.b.set)) :: .pv (.str e.c.b.data) :: .pv (.lit (.bool e.c.a.set)) :: .pv (.str e.c.a.data) :: .pv (.str e.blob) :: cells encE l:List DV) = cells encE (e :: l):=rfl
theorem QuT (e:E) (l:List E) (hl:l.length<=100000):VCalls prog 50 [.agg e.d,.pv (.sl (fz encE l))] [] (Ret (.pv (.sl (fz encE (e :: l))))):=by
  refine dk Tryz.func50 ?_
  have hc:=QDw e l
  have hb:(1 + l.length) * 128<=140737488355328:=by omega
  have hlen:(e :: l).length = 1 + l.length:=by simp; omega
  (unfold Tryz.f50; refine rn (And.intro @hc (And.intro @hb @hlen)) ?_; try with_reducible exact ⟨⟩)
@[go_sem] def esD (a:List E × Int):DV:=.tup [.pv (.sl (fz encE a.1)),.int .i64 a.2]
theorem Qsn {x:Lg} {n:Int} (h:(QdU x n).2 = 0):lgB x = true/\x.f<=n/\n<=x.end_/\(QdU x n).1.lsn = n/\(QdU x n).1.okB = true:=by
  unfold QdU at h |-
  split at h
  · simp at h
  rename_i q1
  split at h
  · simp at h
  rename_i q2
  rw [if_neg q1,if_neg q2]
  have hv:lgB x = true:=by simpa using q1
  have hv2:=hv
  unfold lgB at hv2
  simp only [Bool.and_eq_true,List.all_eq_true,List.mem_range] at hv2
  have hd:=hv2.1
  simp only [decide_eq_true_eq,Lg.hd] at hd
  have:=hv2.2 (n - x.f).toNat (by simp only [Lg.end_] at q2; omega)
  unfold lgC at this
  simp only [Bool.and_eq_true,decide_eq_true_eq] at this
  dsimp only
  exact ⟨hv,by omega,by omega,by omega,this.2⟩
theorem QyV {e:E} (h:e.okB = true):0<=e.ppg/\e.ppg < e.lsn:=by
  unfold E.okB bef at h
  simp only [Bool.and_eq_true,decide_eq_true_eq] at h
  omega
structure Ch7 (x:Lg) where
  at_:Int
  out:List E
  ok:out = []\/at_ + out.length<=x.f + x.es.length
  nn:0<=at_
  le:out.length<=4097
theorem Qu2 (x:Lg) (hx:x.es.length<=4096) (pg last above:Int):VCalls prog 25 [.agg x.c,.int .i64 pg,.int .i64 last,.int .i64 above] [] (QC esD fun a=>a.1.length<=4097):=by
  refine dk Tryz.func25 ?_
  have c1:=QV x (by omega)
  have c2:=Qe8 x (by omega)
  have hok:=@Qsn x
  (unfold Tryz.f25; refine rn trivial ?_)
  cases hv:lgB x
  · rw [hv] at c1
    refine rn F ?_
    repeat' (first
      | with_reducible exact ⟨⟩
      | refine vp F (c1) ?_)
    exact ⟨rfl,rfl,([],26),rfl,Nat.zero_le _⟩
  rw [hv] at c1
  have hd:=QB hv
  simp only [Lg.hd] at hd
  refine rn F ?_
  repeat' (first
    | with_reducible exact ⟨⟩
    | (refine sG F ?_ ?_<;>intro hZ)
    | (refine sB F ?_ ?_<;>intro hZ)
    | refine vp F (c1) ?_)
  all_goals first
    | exact ⟨rfl,rfl,([],1),rfl,Nat.zero_le _⟩
    | skip
  refine VLoop.wkS ?_
  refine rn trivial ?_
  refine Qg (fun s:Ch7 x=>⟨62,0,[(11,.int .i64 s.at_),(10,.pv (.sl (fz encE s.out))),(4,.ptr 0 0),(3,.int .i64 above),(1,.int .i64 pg)],[⟨25,true,x.c⟩]⟩) (fun s=>s.at_.toNat) ⟨last,[],.inl rfl,by omega,Nat.zero_le _⟩ (gc [0]) ?_
  rintro ⟨at_,out,ok,nn,le⟩
  dsimp only
  have c3:=c2 at_
  have hok:=hok (n:=at_)
  generalize QdU x at_ = g at *
  have c4:=QaX g.1
  have c5:=QuT g.1 out (by omega)
  refine rn F ?_
  repeat' (first
    | with_reducible exact ⟨⟩
    | (refine sG F ?_ ?_<;>intro hZ)
    | (refine sB F ?_ ?_<;>intro hZ)
    | refine vp F (c3) ?_
    | refine vp F (c4) ?_
    | refine vp F (c5) ?_
    | (refine Qb (id:=13) [0,1,3,4] [⟨[],[],2,[3,4],[]⟩,⟨[],[],5,[3,4],[]⟩,⟨[],[],6,[],[]⟩] (by kernel_rfl) (by kernel_rfl) ?_; refine rn F ?_))
  all_goals first
    | exact ⟨rfl,rfl,([],_),rfl,Nat.zero_le _⟩
    | exact ⟨rfl,rfl,(out,0),rfl,le⟩
    | skip
  obtain ⟨k1,k2,k3,k4,k5⟩:=hok (by omega)
  have hp:=QyV k5
  simp only [Lg.end_] at k3
  have ho:at_ + out.length<=x.f + x.es.length:=by
    rcases ok with rfl | ok
    · simp; omega
    · exact ok
  exact ⟨⟨g.1.ppg,g.1 :: out,.inr (by simp only [List.length_cons]; omega),hp.1,by simp only [List.length_cons]; omega⟩,by dsimp only; omega,(gc [0])⟩
theorem QBm (c:Ch):VCalls prog 64 [.agg c.d] [] (Ret (.agg (Ch.d ⟨c.pg,c.sl,c.a,c.b⟩))):=by
  refine dd Tryz.func64 ?_
  (unfold Tryz.f64; refine rn trivial ?_; try with_reducible exact ⟨⟩)
theorem QyW {c:Ch} (h:c.okB = true):0<=c.sl/\c.sl < 16:=by
  unfold Ch.okB at h
  simp only [Bool.and_eq_true,decide_eq_true_eq] at h
  omega
theorem QCq (a c:Bool) (b d:List UInt8):QJ [.pv (.lit (.bool a)),.pv (.str b)] [.pv (.lit (.bool c)),.pv (.str d)] [(0,0),(1,2)] = some (a == c && b == d):=by simp [QJ,Q3]
theorem Qj7 (p:Pg) (c:Ch):VCalls prog 187 [.agg p.d,.agg c.d] [] (QC piD fun a=>a.2 = 0->a.1.id = p.id):=by
  refine dd Tryz.func187 ?_
  have c1:=Qrn c
  have hs:=QyW (c:=c)
  (unfold Tryz.f187; refine rn trivial ?_)
  cases hv:c.okB
  · rw [hv] at c1
    refine rn F ?_
    repeat' (first
      | with_reducible exact ⟨⟩
      | refine vp F (c1) ?_)
    exact ⟨rfl,rfl,(Pg0,22),rfl,fun h=>by simp at h⟩
  rw [hv] at c1
  obtain ⟨s1,s2⟩:=hs hv
  obtain ⟨i,hi⟩:∃ i:Nat,c.sl = i:=⟨c.sl.toNat,by omega⟩
  have hi16:i < 16:=by omega
  have hg:=QnB p i hi16
  have hce:=Qjc p i hi16 c.a
  have F:=(And.intro @hi (And.intro @hg (And.intro @hce @QCq)))
  refine rn F ?_
  repeat' (first
    | with_reducible exact ⟨⟩
    | (refine sB F ?_ ?_<;>intro hZ)
    | refine vl F (c1) ?_
    | (refine Qb (id:=5) [0,1,2,3,4,5,6,7] [⟨[],[],8,[0,1,2,3,4,5,6],[]⟩] (by kernel_rfl) (by kernel_rfl) ?_; refine rn F ?_))
  all_goals first
    | exact ⟨rfl,rfl,(p.setc i c.a,0),rfl,fun _=>rfl⟩
    | (focus (refine ⟨rfl,rfl,(Pg0,_),rfl,fun h=>?_⟩; simp at h; done))
    | skip
theorem Qu5 (p:Pg) (e:E):VCalls prog 231 [.agg p.d,.agg e.d] [] (QC piD fun a=>a.2 = 0->a.1.id = p.id):=by
  refine dd Tryz.func231 ?_
  have c1:=Qca e
  have c2:=QaX e
  have c3:=Qdb p
  have c4:=Qj7 p e.c
  generalize e.okB = b at *
  generalize QaI p = k at *
  (unfold Tryz.f231; refine rn trivial ?_)
  refine rn F ?_
  repeat' (first
    | with_reducible exact ⟨⟩
    | (refine sG F ?_ ?_<;>intro hZ)
    | (refine sB F ?_ ?_<;>intro hZ)
    | refine vp F (c1) ?_
    | refine vp F (c2) ?_
    | refine vp F (c3) ?_
    | (refine Qj (c4) rfl ?_; rintro ⟨q,er⟩ hq; refine rn F ?_))
  all_goals first
    | exact ⟨rfl,rfl,(⟨q.id,e.lsn,q.cel⟩,0),rfl,fun _=>hq (by dsimp only; omega)⟩
    | exact ⟨rfl,rfl,(Pg0,er),rfl,fun h=>absurd h (by assumption)⟩
    | exact ⟨rfl,rfl,(Pg0,k),rfl,fun h=>absurd h (by assumption)⟩
    | (focus (refine ⟨rfl,rfl,(Pg0,_),rfl,fun h=>?_⟩; simp at h; done))
    | skip
theorem Qq2 (x:Lg) (hx:x.es.length<=4096) (p:Pg) (n:Int):VCalls prog 230 [.agg x.c,.agg p.d,.int .i64 n] [] (QC esD fun a=>a.1.length<=4097):=by
  refine dk Tryz.func230 ?_
  have c1:=QV x (by omega)
  have c2:=Qdb p
  have c3:=Qu2 x hx
  generalize lgB x = b at *
  generalize QaI p = k at *
  (unfold Tryz.f230; refine rn trivial ?_)
  refine rn F ?_
  repeat' (first
    | with_reducible exact ⟨⟩
    | (refine sB F ?_ ?_<;>intro hZ)
    | refine vp F (c1) ?_
    | refine vp F (c2) ?_
    | (refine Qj (c3 _ _ _) rfl ?_; rintro ⟨l,e⟩ hl; refine rn F ?_))
  all_goals first
    | exact ⟨rfl,rfl,([],_),rfl,Nat.zero_le _⟩
    | exact ⟨rfl,rfl,(l,e),rfl,hl⟩
    | skip
@[go_sem] def QEq (a:Pg × Int × Int):DV:=.tup [.agg a.1.d,.int .i64 a.2.1,.int .i64 a.2.2]
theorem QuB (x:Lg) (hx:x.es.length<=4096) (p:Pg) (n:Int):VCalls prog 183 [.agg x.c,.agg p.d,.int .i64 n] [] (QC QEq fun a=>a.2.2 = 0->a.1.id = p.id):=by
  refine dk Tryz.func183 ?_
  have c1:=Qq2 x hx p n
  (unfold Tryz.f183; refine rn trivial ?_)
  refine rn F ?_
  repeat' (first
    | with_reducible exact ⟨⟩
    | (refine sB F ?_ ?_<;>intro hZ)
    | (refine Qj (c1) rfl ?_; rintro ⟨l,e⟩ hl; refine rn F ?_))
  all_goals first
    | exact ⟨rfl,rfl,(Pg0,0,e),rfl,fun h=>absurd h (by assumption)⟩
    | skip
  dsimp only at hl
  refine Qg (fun s:{s:Nat × Pg // s.1<=l.length/\s.2.id = p.id}=>⟨45,0,[(11,.int .i64 s.1.1),(9,.pv (.sl (fz encE l))),(6,.ptr 1 0),(4,.ptr 0 0)],[⟨178,true,s.1.2.d⟩,⟨178,true,Pg0.d⟩]⟩) (fun s=>l.length - s.1.1) ⟨(0,p),Nat.zero_le _,rfl⟩ (gc [1,2]) ?_
  rintro ⟨⟨i,q⟩,hi,hq⟩
  dsimp only at hi hq |-
  have hg:=fun h:i < l.length=>QeV l i h
  have c2:=Qu5 q (l.getD i E0)
  have F:=@hg
  refine rn F ?_
  repeat' (first
    | with_reducible exact ⟨⟩
    | (refine sB F ?_ ?_<;>intro hZ)
    | (refine Qj (c2) rfl ?_; rintro ⟨q2,e2⟩ hq2; refine rn F ?_)
    | (refine Qb (id:=7) [0,1,2,3,4] [⟨[],[],5,[1,2,3],[6,7,8]⟩,⟨[],[],9,[8],[]⟩,⟨[],[],10,[],[]⟩] (by kernel_rfl) (by kernel_rfl) ?_; refine rn F ?_))
  all_goals first
    | exact ⟨rfl,rfl,(Pg0,0,e2),rfl,fun h=>absurd h (by assumption)⟩
    | exact ⟨rfl,rfl,(q,l.length,0),rfl,fun _=>hq⟩
    | exact ⟨⟨(i + 1,q2),by dsimp only; omega,(hq2 (by dsimp only; omega)).trans hq⟩,by dsimp only; omega,(gc [0,1])⟩
    | skip
theorem Qyl (x:Lg) (hx:x.es.length<=4096) (p:Pg) (n:Int):VCalls prog 139 [.agg x.c,.agg p.d,.int .i64 n] [] (QC piD fun a=>a.2 = 0->a.1.id = p.id):=by
  refine dd Tryz.func139 ?_
  have c1:=QuB x hx p n
  (unfold Tryz.f139; refine rn trivial ?_)
  refine rn F ?_
  repeat' (first
    | with_reducible exact ⟨⟩
    | (refine Qj (c1) rfl ?_; rintro ⟨q,m,e⟩ hq; refine rn F ?_))
  exact ⟨rfl,rfl,(q,e),rfl,hq⟩
end
section
attribute [local go_sem] Ce.d Ch.d E.d Lg.c QJ Q3
end
structure EOk (f:Int) (k:Nat) (e:E):Prop where
  lsn:e.lsn = f + k
  ptx:0<=e.ptx/\e.ptx < e.lsn
  ref:0<=e.ref/\e.ref < e.lsn
  tx:(1<=e.tx/\(e.kind = 1\/e.kind = 2\/e.kind = 3\/e.kind = 4\/e.kind = 5))\/(e.tx = 0/\e.kind ≠ 1/\e.kind ≠ 2/\e.kind ≠ 3/\e.kind ≠ 4/\e.kind ≠ 5)
  sl:e.kind = 2->0<=e.c.sl
structure Wf (f:Int) (es:List E):Prop where
  f1:1<=f
  ok:∀ k,k < es.length->EOk f k (es.getD k E0)
theorem Wf.of {x:Lg} (h:lgB x = true):Wf x.f x.es:=by
  refine ⟨(QB h).1,fun k hk=>?_⟩
  unfold lgB at h
  rw [Bool.and_eq_true,List.all_eq_true] at h
  have h2:=h.2 k (List.mem_range.2 hk)
  unfold lgC at h2
  rw [Bool.and_eq_true] at h2
  have h3:=of_decide_eq_true h2.1
  have h4:=h2.2
  generalize x.es.getD k E0 = e at *
  unfold E.okB bef at h4
  simp only [Bool.and_eq_true,decide_eq_true_eq] at h4
  obtain ⟨⟨⟨⟨_,a1⟩,_⟩,a2⟩,a3⟩:=h4
  refine ⟨h3,a1,a2,?_,?_⟩
  · unfold E.kindB txB at a3
    split at a3
    · simp at a3; omega
    split at a3
    · simp at a3; omega
    split at a3
    · simp at a3; omega
    split at a3
    · simp at a3; omega
    split at a3
    · simp at a3; omega
    · cases a3
  · intro hk
    unfold E.kindB at a3
    rw [if_neg (by omega),if_pos hk] at a3
    unfold Ch.okB at a3
    simp at a3
    omega
theorem QzJ {es:List E} {i:Nat} {p:E->Bool}:exE es i p = true ↔ ∃ k,k < i/\p (es.getD k E0) = true:=by
  unfold exE
  rw [Bool.not_eq_true',List.all_eq_false]
  simp
theorem exE_iff' {es:List E} {i:Nat} {p:E->Bool}:exE es i p = false ↔ ∀ k,k < i->p (es.getD k E0) = false:=by
  rw [Bool.eq_false_iff,Ne,QzJ]
  simp
theorem QcC (es:List E) (i:Nat) (n:Int):QmC es (i + 1) n = (QmC es i n || undp n (es.getD i E0)):=Qdk _ _ _
def before (es:List E) (i:Nat):List E:=(List.range i).map fun k=>es.getD k E0
theorem Qmr (es:List E) (i:Nat):before es (i + 1) = before es i ++ [es.getD i E0]:=by
  unfold before
  rw [List.range_succ,List.map_append]
  rfl
theorem Qoz {es:List E} {i:Nat} {y:E}:y ∈ before es i ↔ ∃ k,k < i/\es.getD k E0 = y:=by
  unfold before
  simp
theorem Qjg {f:Int} {es:List E} (W:Wf f es) {i:Nat} (hi:i<=es.length):(before es i).Pairwise fun a b=>a.lsn < b.lsn:=by
  unfold before
  rw [List.pairwise_map]
  refine List.Pairwise.imp_of_mem ?_ List.pairwise_lt_range
  intro a b ha hb h
  have ha:=List.mem_range.1 ha
  have hb:=List.mem_range.1 hb
  rw [(W.ok a (by omega)).lsn,(W.ok b (by omega)).lsn]
  omega
def QiT (es:List E) (i:Nat) (x:Int):List E:=(before es i).filter fun e=>decide (e.kind = 1) && (decide (e.tx = x) && !QmC es i e.lsn)
theorem mem_penL {es:List E} {i:Nat} {x:Int} {y:E}:y ∈ QiT es i x ↔ (∃ k,k < i/\es.getD k E0 = y)/\y.kind = 1/\y.tx = x/\QmC es i y.lsn = false:=by
  unfold QiT
  rw [List.mem_filter,Qoz]
  simp
theorem Qgv {f:Int} {es:List E} (W:Wf f es) {i:Nat} (hi:i<=es.length) (x:Int):(QiT es i x).Pairwise fun a b=>a.lsn < b.lsn:=(Qjg W hi).filter _
theorem Qt5 {f:Int} {es:List E} (W:Wf f es) {i:Nat} (hi:i < es.length):QmC es i (f + i) = false:=by
  unfold QmC
  rw [exE_iff']
  intro k hk
  have h:=W.ok k (by omega)
  unfold undp
  have h1:=h.ref.2
  rw [h.lsn] at h1
  rw [Bool.and_eq_false_iff]
  exact .inr (decide_eq_false (by omega))
theorem Qh3 {f:Int} {es:List E} (W:Wf f es) (x:Int):∀ i,i<=es.length->(Qce es x i = 0/\∀ k,k < i->(es.getD k E0).tx ≠ x)\/(f<=Qce es x i/\∃ k,k < i/\(es.getD k E0).tx = x)
  | 0,_=>.inl ⟨rfl,fun k hk=>by omega⟩
  | i + 1,hi=>by
    rw [Qce]
    have h:=(W.ok i (by omega)).lsn
    by_cases hx:(es.getD i E0).tx = x
    · rw [if_pos hx]
      exact .inr ⟨by omega,i,by omega,hx⟩
    · rw [if_neg hx]
      rcases Qh3 W x i (by omega) with ⟨h1,h2⟩ | ⟨h1,k,h2,h3⟩
      · refine .inl ⟨h1,fun k hk=>?_⟩
        by_cases hki:k = i
        · rw [hki]; exact hx
        · exact h2 k (by omega)
      · exact .inr ⟨h1,k,by omega,h3⟩
theorem QvO (L:List (Int × Int)) (a v b:Int):QkL (QtB L a v) b = if a = b then some v else QkL L b:=by
  induction L with
  | nil=>simp [QtB,QkL]
  | cons q r ih =>
    obtain ⟨k,x⟩:=q
    unfold QtB
    by_cases h:k = a
    · subst h
      simp only [if_pos,QkL]
      split<;>simp
    · rw [if_neg h]
      simp only [QkL]
      rw [ih]
      by_cases h2:k = b
      · subst h2
        rw [if_pos rfl,if_neg (fun e=>h e.symm),if_pos rfl]
      · rw [if_neg h2,if_neg h2]
theorem Qvp (U:List Int) (a b:Int):b ∈ QDg U a ↔ b ∈ U\/b = a:=by
  unfold QDg
  split
  · constructor
    · exact .inl
    · rintro (h | rfl)
      · exact h
      · assumption
  · simp
theorem QkS (T:List Tr) (t:Tr) (x:Int):QkT (Qx6 T t) x = if t.tx = x then some t else QkT T x:=by
  unfold QkT
  induction T with
  | nil=>simp [Qx6,List.find?_cons]; split<;>simp_all
  | cons a r ih =>
    unfold Qx6
    by_cases h:a.tx = t.tx
    · rw [if_pos h]
      simp only [List.find?_cons]
      rw [h]
      by_cases h2:t.tx = x
      · simp [h2]
      · simp [h2]
    · rw [if_neg h]
      simp only [List.find?_cons]
      rw [ih]
      by_cases h2:a.tx = x
      · subst h2
        simp [Ne.symm h]
      · simp [h2]
theorem Qnw (e:E):∀ (P:List E),P.Pairwise (fun a b=>a.lsn < b.lsn)->P.drop (P.findIdx (Qcp e)) = P.filter (Qcp e)
  | [],_=>rfl
  | a :: r,h=>by
    rw [List.pairwise_cons] at h
    rw [List.findIdx_cons,List.filter_cons]
    cases ha:Qcp e a
    · simpa using Qnw e r h.2
    · have:r.filter (Qcp e) = r:=List.filter_eq_self.2 fun b hb=>by
        have:=h.1 b hb
        unfold Qcp at ha |-
        simp at ha |-
        omega
      simp [this]
theorem QmD (e:E):∀ (P:List E),P.Pairwise (fun a b=>a.lsn < b.lsn)->P.any (Qcp e) = true->(P.getD (P.findIdx (Qcp e)) E0).lsn = e.ref->QCL P (P.findIdx (Qcp e)) = P.filter fun y=>!decide (y.lsn = e.ref)
  | [],_,h,_=>by cases h
  | a :: r,h,hq,hl=>by
    rw [List.pairwise_cons] at h
    rw [List.findIdx_cons] at hl |-
    rw [List.filter_cons]
    cases ha:Qcp e a
    · rw [ha] at hl
      have hq:r.any (Qcp e) = true:=by simpa [ha] using hq
      have hl:(r.getD (r.findIdx (Qcp e)) E0).lsn = e.ref:=by simpa using hl
      have:=QmD e r h.2 hq hl
      unfold QCL at this |-
      have hne:a.lsn ≠ e.ref:=by unfold Qcp at ha; simp at ha; omega
      simp [hne]
      simpa using this
    · rw [ha] at hl
      have hl:a.lsn = e.ref:=by simpa using hl
      have:r.filter (fun y=>!decide (y.lsn = e.ref)) = r:=List.filter_eq_self.2 fun b hb=>by
        have:=h.1 b hb
        simp
        omega
      simp [QCL,hl,this]
structure Inv (f:Int) (es:List E) (i:Nat) (A:Ck):Prop where
  pg:∀ p,QkL A.Pg p = if Qcl es p i = 0 then none else some (Qcl es p i)
  un:∀ n,n ∈ A.U ↔ QmC es i n = true
  no:∀ x,1<=x->QkT A.T x = none->∀ k,k < i->(es.getD k E0).tx ≠ x
  so:∀ x t,1<=x->QkT A.T x = some t->Qce es x i ≠ 0/\t.last = Qce es x i/\t.ab = Qtv es x i/\t.en = exE es i (QvZ x)/\t.ea = exE es i (QtE f x)/\t.P = QiT es i x
theorem Qnh {es:List E} {x:Int}:∀ {i:Nat},(∀ k,k < i->(es.getD k E0).tx ≠ x)->Qce es x i = 0/\Qtv es x i = false
  | 0,_=>⟨rfl,rfl⟩
  | i + 1,h=>by
    rw [Qce,Qtv,if_neg (h i (by omega)),if_neg (h i (by omega))]
    exact Qnh fun k hk=>h k (by omega)
theorem QwS {es:List E} {x:Int} {i:Nat} {f:Int} (h:∀ k,k < i->(es.getD k E0).tx ≠ x):exE es i (QvZ x) = false/\exE es i (QtE f x) = false/\QiT es i x = []:=by
  refine ⟨exE_iff'.2 fun k hk=>?_,exE_iff'.2 fun k hk=>?_,?_⟩
  · unfold QvZ; rw [decide_eq_false (h k hk)]; rfl
  · unfold QtE; rw [decide_eq_false (h k hk)]; rfl
  · rw [List.eq_nil_iff_forall_not_mem]
    intro y hy
    obtain ⟨⟨k,hk,rfl⟩,_,h2,_⟩:=mem_penL.1 hy
    exact h k hk h2
theorem QCd {f:Int} {es:List E} (W:Wf f es) {i:Nat} {A:Ck} (I:Inv f es i A) (e:E) (ht:1<=e.tx) :
    ckB f A e = ((if Qce es e.tx i = 0 then decide (e.ptx < f) else decide (e.ptx = Qce es e.tx i) && !exE es i (QvZ e.tx)) && ((!QeB e || pagedB f A.Pg e) && Qub f A.U e (if Qce es e.tx i = 0 then decide (0 < e.ptx) else exE es i (QtE f e.tx)) (Qtv es e.tx i) (QiT es i e.tx))) /\
    ckS f A e = ⟨Qx6 A.T ⟨e.tx,e.lsn,if Qce es e.tx i = 0 then decide (0 < e.ptx) else exE es i (QtE f e.tx),nab e (Qtv es e.tx i),nen e (exE es i (QvZ e.tx)),Qua f e (QiT es i e.tx)⟩,if QeB e = true then QtB A.Pg e.c.pg e.lsn else A.Pg,Qt9 A.U e⟩:=by
  unfold ckB ckS
  have h0:e.tx ≠ 0:=by omega
  rw [if_neg h0,if_neg h0]
  cases hT:QkT A.T e.tx with
  | none =>
    have hn:=I.no e.tx ht hT
    obtain ⟨h1,h2⟩:=Qnh hn
    obtain ⟨h3,h4,h5⟩:=QwS (f:=f) hn
    rw [h1,h2,h3,h5]
    exact ⟨rfl,rfl⟩
  | some t =>
    obtain ⟨h0,h1,h2,h3,h4,h5⟩:=I.so e.tx t ht hT
    simp only [h1,h2,h3,h4,h5,if_neg h0]
    exact ⟨trivial,trivial⟩
theorem QiS {f:Int} {es:List E} (W:Wf f es) {i:Nat} (hi:i<=es.length) {x:Int} {y:E} (h:y ∈ QiT es i x):∃ k,k < i/\es.getD k E0 = y/\y.lsn = f + k:=by
  obtain ⟨⟨k,hk,rfl⟩,_⟩:=mem_penL.1 h
  exact ⟨k,hk,rfl,(W.ok k (by omega)).lsn⟩
theorem Qvd {f:Int} {es:List E} (W:Wf f es) {i:Nat} (hi:i<=es.length) {x x':Int} {y y':E} (h:y ∈ QiT es i x) (h':y' ∈ QiT es i x') (e:y.lsn = y'.lsn):y = y':=by
  obtain ⟨k,_,rfl,h1⟩:=QiS W hi h
  obtain ⟨k',_,rfl,h2⟩:=QiS W hi h'
  obtain rfl:k = k':=by omega
  rfl
theorem QvH {P:List E} {e:E} (hs:P.Pairwise fun a b=>a.lsn < b.lsn) (ha:P.any (Qcp e) = true) :
    P.getD (P.findIdx (Qcp e)) E0 ∈ P/\Qcp e (P.getD (P.findIdx (Qcp e)) E0) = true/\P.filter (Qcp e) = P.getD (P.findIdx (Qcp e)) E0 :: P.drop (P.findIdx (Qcp e) + 1)/\∀ y ∈ P.drop (P.findIdx (Qcp e) + 1),(P.getD (P.findIdx (Qcp e)) E0).lsn < y.lsn:=by
  have hj:P.findIdx (Qcp e) < P.length:=List.findIdx_lt_length_of_exists (by simpa using ha)
  have hd:=Qnw e P hs
  have hc:P.drop (P.findIdx (Qcp e)) = P.getD (P.findIdx (Qcp e)) E0 :: P.drop (P.findIdx (Qcp e) + 1):=by
    rw [Qk P _ hj,List.drop_eq_getElem_cons hj]
  rw [hc] at hd
  have hm:P.getD (P.findIdx (Qcp e)) E0 ∈ P.filter (Qcp e):=by rw [<- hd]; exact List.mem_cons_self
  have hsf:=hs.filter (Qcp e)
  rw [<- hd,List.pairwise_cons] at hsf
  exact ⟨(List.mem_filter.1 hm).1,(List.mem_filter.1 hm).2,hd.symm,hsf.1⟩
theorem Qkh {f:Int} {es:List E} (W:Wf f es) {i:Nat} (hi:i < es.length) (x:Int):QiT es (i + 1) x = (QiT es i x).filter (fun y=>!undp y.lsn (es.getD i E0)) ++ (if (es.getD i E0).kind = 1/\(es.getD i E0).tx = x then [es.getD i E0] else []):=by
  unfold QiT
  rw [Qmr,List.filter_append,List.filter_filter]
  congr 1
  · refine List.filter_congr fun y _=>?_
    rw [QcC]
    cases decide (y.kind = 1)<;>cases decide (y.tx = x)<;>cases QmC es i y.lsn<;>cases undp y.lsn (es.getD i E0)<;>rfl
  · have hf:=Qt5 W hi
    have hl:=(W.ok i hi).lsn
    rw [<- hl] at hf
    rw [List.filter_cons,List.filter_nil,QcC,hf]
    generalize es.getD i E0 = e at *
    by_cases h1:e.kind = 1
    · by_cases h2:e.tx = x
      · simp [h1,h2,undp]
      · simp [h1,h2]
    · simp [h1]
theorem Qki {f:Int} {es:List E} (W:Wf f es) {i:Nat} (hi:i < es.length) (x:Int) (h1:¬ ((es.getD i E0).kind = 1/\(es.getD i E0).tx = x)) (h2:(es.getD i E0).kind = 2->∀ y ∈ QiT es i x,y.lsn ≠ (es.getD i E0).ref):QiT es (i + 1) x = QiT es i x:=by
  rw [Qkh W hi,if_neg h1,List.append_nil]
  refine List.filter_eq_self.2 fun y hy=>?_
  unfold undp
  by_cases hk:(es.getD i E0).kind = 2
  · rw [decide_eq_false (show ¬ (es.getD i E0).ref = y.lsn from fun h=>h2 hk y hy h.symm),Bool.and_false]
    rfl
  · rw [decide_eq_false hk]
    rfl
theorem QmF {f:Int} {U:List Int} {P:List E} {e:E} (h:QCM f U P e = true) (hf:f<=e.ref):P.any (Qcp e) = true/\(P.getD (P.findIdx (Qcp e)) E0).lsn = e.ref:=by
  unfold QCM at h
  rw [if_pos hf] at h
  by_cases ha:P.any (Qcp e) = true
  · rw [if_pos ha] at h
    simp only [Bool.and_eq_true,decide_eq_true_eq] at h
    exact ⟨ha,h.2.1⟩
  · rw [if_neg ha,decide_eq_false (show ¬ e.ref < f by omega),Bool.and_false] at h
    cases h
theorem QDi {es:List E} {i:Nat} (h:(es.getD i E0).kind ≠ 1/\(es.getD i E0).kind ≠ 2):QeB (es.getD i E0) = false:=by
  unfold QeB
  rw [Bool.or_eq_false_iff]
  exact ⟨beq_eq_false_iff_ne.2 h.1,beq_eq_false_iff_ne.2 h.2⟩
theorem Qi7 {f:Int} {es:List E} (W:Wf f es) {i:Nat} (hi:i < es.length) {A:Ck} (I:Inv f es i A) (h:ckB f A (es.getD i E0) = true):Inv f es (i + 1) (ckS f A (es.getD i E0)):=by
  have hok:=W.ok i hi
  have hil:=Nat.le_of_lt hi
  have other:∀ x,(es.getD i E0).tx ≠ x->Qce es x (i + 1) = Qce es x i/\Qtv es x (i + 1) = Qtv es x i/\exE es (i + 1) (QvZ x) = exE es i (QvZ x)/\exE es (i + 1) (QtE f x) = exE es i (QtE f x):=fun x hx=>by
    refine ⟨by rw [Qce,if_neg hx],by rw [Qtv,if_neg hx],?_,?_⟩
    · rw [Qdk]; unfold QvZ; rw [decide_eq_false hx,Bool.false_and,Bool.or_false]
    · rw [Qdk]; unfold QtE; rw [decide_eq_false hx,Bool.false_and,Bool.or_false]
  rcases hok.tx with ⟨ht,hk⟩ | ⟨ht,hk⟩
  · obtain ⟨eB,eS⟩:=QCd W I _ ht
    rw [eB] at h
    rw [eS]
    have hlast:=Qh3 W (es.getD i E0).tx i hil
    have hund:(es.getD i E0).kind = 2->QCM f A.U (QiT es i (es.getD i E0).tx) (es.getD i E0) = true:=fun hk2=>by
      unfold Qub at h
      rw [if_pos hk2] at h
      simp only [Bool.and_eq_true] at h
      exact h.2.2
    have hptx:if Qce es (es.getD i E0).tx i = 0 then (es.getD i E0).ptx < f else (es.getD i E0).ptx = Qce es (es.getD i E0).tx i:=by
      have:=h
      simp only [Bool.and_eq_true] at this
      have:=this.1
      split at this
      · rename_i h0; rw [if_pos h0]; exact of_decide_eq_true this
      · rename_i h0; rw [if_neg h0]; simp only [Bool.and_eq_true,decide_eq_true_eq] at this; exact this.1
    refine ⟨fun p=>?_,fun n=>?_,fun x hx hn k hk'=>?_,fun x t hx hsome=>?_⟩
    · dsimp only
      rw [Qcl]
      by_cases hc:QeB (es.getD i E0) = true
      · rw [if_pos hc,QvO,I.pg]
        by_cases hp:(es.getD i E0).c.pg = p
        · rw [if_pos hp,if_pos (show QeB (es.getD i E0) = true/\(es.getD i E0).c.pg = p from ⟨hc,hp⟩),if_neg (show ¬ (es.getD i E0).lsn = 0 by have:=hok.lsn; have:=W.f1; omega)]
        · rw [if_neg hp,if_neg (show ¬ (QeB (es.getD i E0) = true/\(es.getD i E0).c.pg = p) from fun h=>hp h.2)]
      · rw [if_neg hc,if_neg (show ¬ (QeB (es.getD i E0) = true/\(es.getD i E0).c.pg = p) from fun h=>hc h.1),I.pg]
    · dsimp only
      rw [QcC]
      unfold Qt9 undp
      by_cases hk2:(es.getD i E0).kind = 2
      · rw [if_pos hk2,Qvp,I.un,decide_eq_true hk2,Bool.true_and,Bool.or_eq_true,decide_eq_true_eq]
        constructor
        · rintro (h | h)
          · exact .inl h
          · exact .inr h.symm
        · rintro (h | h)
          · exact .inl h
          · exact .inr h.symm
      · rw [if_neg hk2,I.un,decide_eq_false hk2,Bool.false_and,Bool.or_false]
    · dsimp only at hn
      rw [QkS] at hn
      dsimp only at hn
      split at hn
      · cases hn
      · rename_i hne
        by_cases hki:k = i
        · rw [hki]; exact hne
        · exact I.no x hx hn k (by omega)
    · dsimp only at hsome
      rw [QkS] at hsome
      dsimp only at hsome
      by_cases hxe:(es.getD i E0).tx = x
      · rw [if_pos hxe] at hsome
        obtain rfl:=Option.some.inj hsome
        subst hxe
        dsimp only
        rw [Qce,if_pos rfl,Qtv,if_pos rfl,Qdk,Qdk,Qkh W hi]
        refine ⟨by have:=hok.lsn; have:=W.f1; omega,rfl,rfl,?_,?_,?_⟩
        · unfold nen QvZ
          rw [decide_eq_true rfl,Bool.true_and,Bool.or_assoc]
        · unfold QtE
          rw [decide_eq_true rfl,Bool.true_and]
          rcases hlast with ⟨h0,hno⟩ | ⟨h0,_⟩
          · rw [if_pos h0] at hptx |-
            have:=(QwS (f:=f) hno).2.1
            unfold QtE at this
            rw [this,decide_eq_true hptx,Bool.false_or,Bool.and_true]
          · have hne:Qce es (es.getD i E0).tx i ≠ 0:=by have:=W.f1; omega
            rw [if_neg hne] at hptx |-
            rw [decide_eq_false (show ¬ (es.getD i E0).ptx < f by omega),Bool.and_false,Bool.or_false]
        · unfold Qua
          by_cases hk2:(es.getD i E0).kind = 2
          · rw [if_pos hk2,if_neg (by omega),List.append_nil]
            unfold QDM
            by_cases hf:f<=(es.getD i E0).ref
            · obtain ⟨a1,a2⟩:=QmF (hund hk2) hf
              rw [if_pos hf,QmD _ _ (Qgv W hil _) a1 a2]
              refine List.filter_congr fun y _=>?_
              unfold undp
              rw [decide_eq_true hk2,Bool.true_and]
              congr 1
              rw [decide_eq_decide]
              exact eq_comm
            · rw [if_neg hf]
              refine (List.filter_eq_self.2 fun y hy=>?_).symm
              obtain ⟨k,_,_,hl⟩:=QiS W hil hy
              unfold undp
              rw [decide_eq_false (show ¬ (es.getD i E0).ref = y.lsn by omega),Bool.and_false]
              rfl
          · rw [if_neg hk2]
            have hid:(QiT es i (es.getD i E0).tx).filter (fun y=>!undp y.lsn (es.getD i E0)) = QiT es i (es.getD i E0).tx:=List.filter_eq_self.2 fun y _=>by
              unfold undp
              rw [decide_eq_false hk2]
              rfl
            rw [hid]
            unfold nP
            by_cases hk1:(es.getD i E0).kind = 1
            · rw [if_pos hk1,if_pos ⟨hk1,rfl⟩]
            · rw [if_neg hk1,if_neg (fun h=>hk1 h.1),List.append_nil]
      · rw [if_neg hxe] at hsome
        obtain ⟨o1,o2,o3,o4⟩:=other x hxe
        rw [o1,o2,o3,o4,Qki W hi x (fun h=>hxe h.2) ?_]
        · exact I.so x t hx hsome
        · intro hk2 y hy hl
          by_cases hf:f<=(es.getD i E0).ref
          · obtain ⟨a1,a2⟩:=QmF (hund hk2) hf
            obtain ⟨b1,_⟩:=QvH (Qgv W hil _) a1
            have:=Qvd W hil hy b1 (by rw [hl,a2])
            rw [<- this] at b1
            have h1:=(mem_penL.1 hy).2.2.1
            have h2:=(mem_penL.1 b1).2.2.1
            exact hxe (h2.symm.trans h1)
          · obtain ⟨k,_,_,hl'⟩:=QiS W hil hy
            omega
  · have hc:=QDi ⟨hk.1,hk.2.1⟩
    rw [ckS,if_pos ht]
    refine ⟨fun p=>?_,fun n=>?_,fun x hx hn k hk'=>?_,fun x t hx hsome=>?_⟩
    · rw [Qcl,if_neg (show ¬ (QeB (es.getD i E0) = true/\(es.getD i E0).c.pg = p) from fun h=>by rw [hc] at h; cases h.1),I.pg]
    · rw [QcC,I.un]
      unfold undp
      rw [decide_eq_false hk.2.1,Bool.false_and,Bool.or_false]
    · by_cases hki:k = i
      · rw [hki]; omega
      · exact I.no x hx hn k (by omega)
    · obtain ⟨o1,o2,o3,o4⟩:=other x (by omega)
      rw [o1,o2,o3,o4,Qki W hi x (fun h=>hk.1 h.1) (fun h=>absurd h hk.2.1)]
      exact I.so x t hx hsome
section
attribute [local go_sem] Ce.d Ch.d E.d Lg.c QJ Q3 mkI Qdq Qdp
def QaS (es:List E) (i:Nat):List Int:=(List.range 64).map fun p=>Qcl es (p:Nat) i
def Qbg (x:Lg):List Int:=if lgB x = true then QaS x.es x.es.length else []
theorem QbZ (es:List E) (i:Nat):(QaS es i).length = 64:=by simp [QaS]
theorem QgN (es:List E):QaS es 0 = List.replicate 64 0:=by
  unfold QaS
  rw [List.eq_replicate_iff]
  refine ⟨by simp,fun b hb=>?_⟩
  obtain ⟨p,_,rfl⟩:=List.mem_map.1 hb
  rfl
theorem Qh5 (es:List E) (i:Nat) (hc:QeB (es.getD i E0) = true) (h0:0<=(es.getD i E0).c.pg):QaS es (i + 1) = (QaS es i).set (es.getD i E0).c.pg.toNat (es.getD i E0).lsn:=by
  refine List.ext_getElem (by simp [QaS]) fun p h1 h2=>?_
  rw [QbZ] at h1
  rw [List.getElem_set]
  simp only [QaS,List.getElem_map,List.getElem_range]
  rw [Qcl]
  by_cases hp:(es.getD i E0).c.pg.toNat = p
  · rw [if_pos hp,if_pos ⟨hc,by omega⟩]
  · rw [if_neg hp,if_neg (fun h=>hp (by omega))]
theorem QgO (es:List E) (i:Nat) (hc:QeB (es.getD i E0) = false):QaS es (i + 1) = QaS es i:=by
  unfold QaS
  refine List.map_congr_left fun p _=>?_
  rw [Qcl,if_neg (fun h=>by rw [hc] at h; cases h.1)]
theorem QBB {x:Lg} {i:Nat} (h:lgB x = true) (hi:i < x.es.length) (hc:QeB (x.es.getD i E0) = true):0<=(x.es.getD i E0).c.pg/\(x.es.getD i E0).c.pg < 64:=by
  unfold lgB at h
  rw [Bool.and_eq_true,List.all_eq_true] at h
  have h2:=h.2 i (List.mem_range.2 hi)
  unfold lgC at h2
  rw [Bool.and_eq_true] at h2
  have h4:=h2.2
  generalize x.es.getD i E0 = e at *
  unfold E.okB at h4
  rw [Bool.and_eq_true] at h4
  have h5:=h4.2
  unfold QeB at hc
  simp only [Bool.or_eq_true,beq_iff_eq] at hc
  unfold E.kindB Ch.okB at h5
  rcases hc with hk | hk
  · rw [if_pos hk] at h5; simp at h5; omega
  · rw [if_neg (by omega),if_pos hk] at h5; simp at h5; omega
theorem QmZ (x:Lg) (hx:x.es.length<=9223372036854775807):VCalls prog 24 [.agg x.c] [] (Ret (.pv (.sl (fz QN (Qbg x))))):=by
  refine VCalls.unwk ?_
  refine dd Tryz.func24 ?_
  have hv:=QV x hx
  unfold Lg.c at hv
  cases hlg:lgB x
  · rw [hlg] at hv
    (unfold Tryz.f24; refine rn trivial ?_)
    refine rn F ?_
    repeat' (first
      | with_reducible exact ⟨⟩
      | refine vp F (hv) ?_)
    rw [Qbg,hlg]
    rfl
  rw [hlg] at hv
  have hes:x.es.length<=4096:=(QB hlg).2.2.1
  have h8:((8:Nat):Int) * 64<=281474976710656:=by decide
  (unfold Tryz.f24; refine rn trivial ?_)
  have F:=@h8
  refine rn F ?_
  repeat' (first
    | with_reducible exact ⟨⟩
    | refine vp F (hv) ?_)
  rw [<- QgN x.es]
  refine Qg (fun s:To x.es.length=>⟨38,0,[(4,.int .i64 s.i),(3,.own 1 1 0 64),(1,.ptr 0 0)],[⟨25,true,x.c⟩,⟨3,true,cells QN (QaS x.es s.i)⟩]⟩) (fun s=>x.es.length - s.i) ⟨0,Nat.zero_le _⟩ (gc [0,1]) ?_
  rintro ⟨k,hk⟩
  dsimp only
  have hl:=QbZ x.es k
  by_cases hc:k < x.es.length
  · have hc':((k:Nat):Int) < x.es.length:=by omega
    have hg:=QeV x.es k hc
    have hch:=QBB hlg hc
    have hs:=Qh5 x.es k
    have hn:=QgO x.es k
    obtain ⟨e,he⟩:∃ e,x.es.getD k E0 = e:=⟨_,rfl⟩
    rw [he] at hg hch hs hn
    have hch':VCalls prog 17 [.agg e.d] [] (Ret (.bool (QeB e))):=QaX e
    unfold E.d at hch'
    cases hce:QeB e
    · rw [hce] at hch'
      have F:=(And.intro @hc' @hg)
      refine rn F ?_
      repeat' (first
        | with_reducible exact ⟨⟩
        | refine vp F (hch') ?_)
      refine ⟨⟨k + 1,hc⟩,by dsimp only; omega,?_⟩
      dsimp only
      rw [hn hce]
      exact (gc [0,1])
    · rw [hce] at hch'
      obtain ⟨p1,p2⟩:=hch hce
      have hs':=hs hce p1
      have p3:¬ 64<=e.c.pg:=by omega
      have p4:e.c.pg.toNat < 64:=by omega
      have F:=(And.intro @hc' (And.intro @hg (And.intro @hl (And.intro @p1 (And.intro @p2 (And.intro @p3 @p4))))))
      refine rn F ?_
      repeat' (first
        | with_reducible exact ⟨⟩
        | refine vp F (hch') ?_
        | (refine Qb (id:=8) [0,1,2,3,4,5,6,7,8,9,10,11,12,13,14] [⟨[],[],15,[],[]⟩] (by kernel_rfl) (by kernel_rfl) ?_; refine rn F ?_))
      refine ⟨⟨k + 1,hc⟩,by dsimp only; omega,?_⟩
      dsimp only
      rw [hs']
      exact (gc [0,1])
  · have hc':¬ ((k:Nat):Int) < x.es.length:=by omega
    have hki:k = x.es.length:=by omega
    subst hki
    have hfr:QkP 0 [⟨25,true,x.c⟩,⟨3,true,cells QN (QaS x.es x.es.length)⟩] 0 1 64 (some (cells QN (QaS x.es x.es.length))) = some (.sl (fz QN (QaS x.es x.es.length))):=Qw3 hl
    have F:=(And.intro @hc' @hl)
    refine rn F ?_
    rw [Qbg,if_pos hlg]
end
section
attribute [local go_sem] Ce.d Ch.d E.d Lg.c QJ Q3 mkI Qdq Qdp
theorem Qwc (x:Lg) (hx:x.es.length<=9223372036854775807):VCalls prog 16 [.agg x.c] [] (Ret (.pv (.sl (fz QN (Qbg x))))):=by
  refine VCalls.unwk ?_
  refine dd Tryz.func16 ?_
  have hv:=Qdh x hx
  unfold Lg.c at hv
  cases hlg:lgB x
  · rw [hlg] at hv
    (unfold Tryz.f16; refine rn trivial ?_)
    refine rn F ?_
    repeat' (first
      | with_reducible exact ⟨⟩
      | refine vp F (hv) ?_)
    rw [Qbg,hlg]
    rfl
  rw [hlg] at hv
  have hes:x.es.length<=4096:=(QB hlg).2.2.1
  have h8:((8:Nat):Int) * 64<=281474976710656:=by decide
  (unfold Tryz.f16; refine rn trivial ?_)
  have F:=@h8
  refine rn F ?_
  repeat' (first
    | with_reducible exact ⟨⟩
    | refine vp F (hv) ?_)
  rw [<- QgN x.es]
  refine Qg (fun s:To x.es.length=>⟨28,0,[(13,.int .i64 s.i),(12,.int .i64 x.es.length),(11,.pv (.sl (fz encE x.es))),(3,.own 0 1 0 64)],[⟨3,true,cells QN (QaS x.es s.i)⟩]⟩) (fun s=>x.es.length - s.i) ⟨0,Nat.zero_le _⟩ (gc [1]) ?_
  rintro ⟨k,hk⟩
  dsimp only
  have hl:=QbZ x.es k
  by_cases hc:k < x.es.length
  · have hc':((k:Nat):Int) < x.es.length:=by omega
    have hg:=QeV x.es k hc
    have hch:=QBB hlg hc
    have hs:=Qh5 x.es k
    have hn:=QgO x.es k
    obtain ⟨e,he⟩:∃ e,x.es.getD k E0 = e:=⟨_,rfl⟩
    rw [he] at hg hch hs hn
    have hch':VCalls prog 43 [.agg e.d] [] (Ret (.bool (QeB e))):=QgX e
    unfold E.d at hch'
    cases hce:QeB e
    · rw [hce] at hch'
      have F:=(And.intro @hc' @hg)
      refine rn F ?_
      repeat' (first
        | with_reducible exact ⟨⟩
        | refine vp F (hch') ?_)
      refine ⟨⟨k + 1,hc⟩,by dsimp only; omega,?_⟩
      dsimp only
      rw [hn hce]
      exact (gc [0])
    · rw [hce] at hch'
      obtain ⟨p1,p2⟩:=hch hce
      have hs':=hs hce p1
      have p3:¬ 64<=e.c.pg:=by omega
      have p4:e.c.pg.toNat < 64:=by omega
      have F:=(And.intro @hc' (And.intro @hg (And.intro @hl (And.intro @p1 (And.intro @p2 (And.intro @p3 @p4))))))
      refine rn F ?_
      repeat' (first
        | with_reducible exact ⟨⟩
        | refine vp F (hch') ?_)
      refine ⟨⟨k + 1,hc⟩,by dsimp only; omega,?_⟩
      dsimp only
      rw [hs']
      exact (gc [0])
  · have hc':¬ ((k:Nat):Int) < x.es.length:=by omega
    have hki:k = x.es.length:=by omega
    subst hki
    have F:=(And.intro @hc' @hl)
    refine rn F ?_
    rw [Qbg,if_pos hlg]
end
section
attribute [local go_sem] Ce.d Ch.d E.d Lg.c QJ Q3 QgI QhG Qho Qhn QhA
theorem Qnt (e:E) (l:List E) (hl:l.length<=100000):VCalls prog 50 [.agg e.d,.pv (.sl (fz encE l))] [] (Ret (.pv (.sl (fz encE (e :: l))))):=by
  refine VCalls.unwk ?_
  refine dd Tryz.func50 ?_
  have he:e.d = cells encE [e]:=rfl
  unfold E.d at he
  have h1:([e]:List E).length = 1:=rfl
  obtain ⟨es,hes⟩:∃ es,es = [e]:=⟨_,rfl⟩
  rw [<- hes] at he h1
  have hap:(es ++ l).length = 1 + l.length:=by rw [List.length_append,h1]
  (unfold Tryz.f50; refine rn trivial ?_)
  have F:=(And.intro @he @h1)
  refine rn F ?_
  have hfz:∀ hp:Qa,QkP 0 hp 0 13 (1 + l.length) (some (cells encE (e :: l))) = some (.sl (fz encE (e :: l))):=fun hp=>QY encE (by rw [List.length_cons]; omega)
  show QnV _ (Option.map _ (QkP 0 _ 0 13 _ (some (cells encE (e :: l))))) _
  rw [hfz]
  (refine rn trivial ?_; try with_reducible exact ⟨⟩)
theorem QwO {x:Lg} {i:Nat} (h:lgB x = true) (hi:i < x.es.length):0<=(x.es.getD i E0).ppg/\(x.es.getD i E0).ppg < (x.es.getD i E0).lsn:=by
  unfold lgB at h
  rw [Bool.and_eq_true,List.all_eq_true] at h
  have h2:=h.2 i (List.mem_range.2 hi)
  unfold lgC at h2
  rw [Bool.and_eq_true] at h2
  have h4:=h2.2
  generalize x.es.getD i E0 = e at *
  unfold E.okB bef at h4
  simp only [Bool.and_eq_true,decide_eq_true_eq] at h4
  exact h4.1.1.2
def pgW (f:Int) (es:List E) (page above:Int):Nat->Int->List E->List E × Int
  | 0,_,_=>([],0)
  | n + 1,at_,out=>if above < at_ then
      (if at_ < f\/f + es.length - 1 < at_ then ([],14)
       else if QeB (es.getD (at_ - f).toNat E0) = true/\(es.getD (at_ - f).toNat E0).c.pg = page then pgW f es page above n (es.getD (at_ - f).toNat E0).ppg (es.getD (at_ - f).toNat E0 :: out)
       else ([],13))
    else if at_ < above then ([],13) else (out,0)
def Qgw (x:Lg) (page last above:Int):List E × Int:=if lgB x = false then ([],26) else if page < 0\/64<=page\/last < 0\/above < 0 then ([],1) else pgW x.f x.es page above (last.toNat + 1) last []
structure PW (x:Lg) (page above:Int) (res:List E × Int) where
  n:Nat
  at_:Int
  h0:0<=at_
  hn:at_.toNat < n
  out:List E
  hl:out = []\/out.length + (at_ - x.f + 1).toNat<=4096
  eq:pgW x.f x.es page above n at_ out = res
theorem QuI (x:Lg) (hx:x.es.length<=9223372036854775807) (page last above:Int):VCalls prog 25 [.agg x.c,.int .i64 page,.int .i64 last,.int .i64 above] [] (Ret (.tup [.pv (.sl (fz encE (Qgw x page last above).1)),.int .i64 (Qgw x page last above).2])):=by
  refine VCalls.unwk ?_
  refine dd Tryz.func25 ?_
  have hv:=QV x hx
  have eS:Qgw x page last above = if lgB x = false then ([],26) else if page < 0\/64<=page\/last < 0\/above < 0 then ([],1) else pgW x.f x.es page above (last.toNat + 1) last []:=rfl
  unfold Lg.c at hv
  cases hlg:lgB x
  · rw [hlg] at hv
    (unfold Tryz.f25; refine rn trivial ?_)
    refine rn F ?_
    repeat' (first
      | with_reducible exact ⟨⟩
      | refine vp F (hv) ?_)
    rw [eS,if_pos hlg]
    rfl
  rw [hlg] at hv
  rw [if_neg (by rw [hlg]; decide)] at eS
  (unfold Tryz.f25; refine rn trivial ?_)
  refine rn F ?_
  repeat' (first
    | with_reducible exact ⟨⟩
    | (refine sG F ?_ ?_<;>intro hZ)
    | (refine sB F ?_ ?_<;>intro hZ)
    | refine vp F (hv) ?_)
  all_goals first
    | (rw [eS,if_pos (by omega)]; rfl)
    | skip
  have hes:x.es.length<=4096:=(QB hlg).2.2.1
  have hf1:=(QB hlg).1
  have hfm:=(QB hlg).2.1
  rw [if_neg (by omega)] at eS
  generalize Qgw x page last above = res at *
  refine VLoop.wkS ?_
  refine rn trivial ?_
  refine Qg (fun s:PW x page above res=>⟨62,0,[(11,.int .i64 s.at_),(10,.pv (.sl (fz encE s.out))),(4,.ptr 0 0),(1,.int .i64 page),(3,.int .i64 above)],[⟨25,true,x.c⟩]⟩) (fun s=>s.n) ⟨last.toNat + 1,last,by omega,by omega,[],.inl rfl,eS.symm⟩ (gc [0]) ?_
  rintro ⟨n,at_,h0,hn,out,hl,eq⟩
  dsimp only
  obtain ⟨n,rfl⟩:∃ m,n = m + 1:=⟨n - 1,by omega⟩
  rw [pgW] at eq
  have hge:QdU x at_ = if at_ < x.f\/x.end_ < at_ then (E0,14) else (x.es.getD (at_ - x.f).toNat E0,0):=by rw [QdU,if_neg (by rw [hlg]; decide)]
  have hen:x.end_ = x.f + x.es.length - 1:=rfl
  have hget:=Qe8 x hx at_
  unfold Lg.c at hget
  by_cases hc:above < at_
  · rw [if_pos hc] at eq
    by_cases hr:at_ < x.f\/x.f + x.es.length - 1 < at_
    · rw [if_pos hr] at eq
      rw [hge,if_pos (by rw [hen]; exact hr)] at hget
      have F:=@hc
      refine rn F ?_
      repeat' (first
        | with_reducible exact ⟨⟩
        | refine vp F (hget) ?_)
      rw [<- eq]
      rfl
    · rw [if_neg hr] at eq
      rw [hge,if_neg (by rw [hen]; exact hr)] at hget
      have hk:(at_ - x.f).toNat < x.es.length:=by omega
      have hw:=(Wf.of hlg).ok _ hk
      have hpp:=QwO hlg hk
      obtain ⟨e,he⟩:∃ e,x.es.getD (at_ - x.f).toNat E0 = e:=⟨_,rfl⟩
      rw [he] at eq hget hw hpp
      have hlsn:=hw.lsn
      dsimp only at hget
      have hfr:=Qnt e out (by rcases hl with rfl | h; exact Nat.zero_le _; omega)
      have hch':VCalls prog 17 [.agg e.d] [] (Ret (.bool (QeB e))):=QaX e
      unfold E.d at hch' hfr hget
      cases hce:QeB e
      · rw [hce] at hch'
        have F:=@hc
        refine rn F ?_
        repeat' (first
          | with_reducible exact ⟨⟩
          | refine vp F (hget) ?_
          | refine vp F (hch') ?_)
        rw [if_neg (fun h=>by rw [hce] at h; cases h.1)] at eq
        rw [<- eq]
        rfl
      · rw [hce] at hch'
        have F:=@hc
        refine rn F ?_
        repeat' (first
          | with_reducible exact ⟨⟩
          | (refine sB F ?_ ?_<;>intro hZ)
          | refine vp F (hget) ?_
          | refine vp F (hch') ?_
          | refine vp F (hfr) ?_
          | (refine Qb (id:=13) [0,1,3,4] [⟨[],[],2,[3,4],[]⟩,⟨[],[],5,[3,4],[]⟩,⟨[],[],6,[],[]⟩] (by kernel_rfl) (by kernel_rfl) ?_; refine rn F ?_))
        · rw [if_neg (fun h=>hZ h.2)] at eq
          rw [<- eq]
          rfl
        · rw [if_pos ⟨hce,hZ⟩] at eq
          exact ⟨⟨n,e.ppg,hpp.1,by omega,e :: out,.inr (by rw [List.length_cons]; rcases hl with rfl | h; (rw [List.length_nil]; omega); omega),eq⟩,by dsimp only; omega,(gc [0])⟩
  · rw [if_neg hc] at eq
    have F:=@hc
    refine rn F ?_
    repeat' (first
      | with_reducible exact ⟨⟩
      | (refine sB F ?_ ?_<;>intro hZ))
    all_goals first
      | (rw [if_pos (by assumption)] at eq; rw [<- eq]; rfl)
      | (rw [if_neg (by omega)] at eq; rw [<- eq]; done)
      | (rw [if_neg (by omega)] at eq; rw [<- eq]; rfl)
end
section
attribute [local go_sem] Ce.d Ch.d E.d Lg.c QJ Q3 QgI QhG Qho Qhn QhA
theorem QwM {x:Lg} {i:Nat} (h:lgB x = true) (hi:i < x.es.length):0<=(x.es.getD i E0).ptx/\(x.es.getD i E0).ptx < (x.es.getD i E0).lsn:=((Wf.of h).ok i hi).ptx
def Qqp (f:Int) (es:List E):Nat->Int->Int->List E->List E × Int
  | 0,_,_,_=>([],0)
  | n + 1,at_,tx,out=>if 0 < at_ then
      (if at_ < f\/f + es.length - 1 < at_ then ([],14)
       else if (es.getD (at_ - f).toNat E0).tx ≠ 0/\(tx = 0\/(es.getD (at_ - f).toNat E0).tx = tx) then Qqp f es n (es.getD (at_ - f).toNat E0).ptx (es.getD (at_ - f).toNat E0).tx (es.getD (at_ - f).toNat E0 :: out)
       else ([],13))
    else (out,0)
def Qfv (x:Lg) (last:Int):List E × Int:=if lgB x = false then ([],26) else if last < 0 then ([],1) else Qqp x.f x.es (last.toNat + 1) last 0 []
structure TW (x:Lg) (last:Int) (res:List E × Int) where
  n:Nat
  at_:Int
  h0:0<=at_
  hn:at_.toNat < n
  tx:Int
  ht:(tx = 0/\at_ = last)\/(tx ≠ 0/\at_ < last)
  out:List E
  hl:out = []\/out.length + (at_ - x.f + 1).toNat<=4096
  eq:Qqp x.f x.es n at_ tx out = res
theorem QwG (x:Lg) (hx:x.es.length<=9223372036854775807) (last:Int):VCalls prog 26 [.agg x.c,.int .i64 last] [] (Ret (.tup [.pv (.sl (fz encE (Qfv x last).1)),.int .i64 (Qfv x last).2])):=by
  refine VCalls.unwk ?_
  refine dd Tryz.func26 ?_
  have hv:=QV x hx
  have eS:Qfv x last = if lgB x = false then ([],26) else if last < 0 then ([],1) else Qqp x.f x.es (last.toNat + 1) last 0 []:=rfl
  unfold Lg.c at hv
  cases hlg:lgB x
  · rw [hlg] at hv
    (unfold Tryz.f26; refine rn trivial ?_)
    refine rn F ?_
    repeat' (first
      | with_reducible exact ⟨⟩
      | refine vp F (hv) ?_)
    rw [eS,if_pos hlg]
    rfl
  rw [hlg] at hv
  rw [if_neg (by rw [hlg]; decide)] at eS
  (unfold Tryz.f26; refine rn trivial ?_)
  refine rn F ?_
  repeat' (first
    | with_reducible exact ⟨⟩
    | (refine sB F ?_ ?_<;>intro hZ)
    | refine vp F (hv) ?_)
  all_goals first
    | (rw [eS,if_pos (by omega)]; rfl)
    | skip
  have hes:x.es.length<=4096:=(QB hlg).2.2.1
  have hf1:=(QB hlg).1
  have hfm:=(QB hlg).2.1
  rw [if_neg (by omega)] at eS
  generalize Qfv x last = res at *
  refine VLoop.wkS ?_
  refine rn trivial ?_
  refine Qg (fun s:TW x last res=>⟨47,0,[(8,.int .i64 s.at_),(7,.int .i64 s.tx),(6,.pv (.sl (fz encE s.out))),(2,.ptr 0 0),(1,.int .i64 last)],[⟨25,true,x.c⟩]⟩) (fun s=>s.n) ⟨last.toNat + 1,last,by omega,by omega,0,.inl ⟨rfl,rfl⟩,[],.inl rfl,eS.symm⟩ (gc [0]) ?_
  rintro ⟨n,at_,h0,hn,tx,ht,out,hl,eq⟩
  dsimp only
  obtain ⟨n,rfl⟩:∃ m,n = m + 1:=⟨n - 1,by omega⟩
  rw [Qqp] at eq
  have hge:QdU x at_ = if at_ < x.f\/x.end_ < at_ then (E0,14) else (x.es.getD (at_ - x.f).toNat E0,0):=by rw [QdU,if_neg (by rw [hlg]; decide)]
  have hen:x.end_ = x.f + x.es.length - 1:=rfl
  have hget:=Qe8 x hx at_
  unfold Lg.c at hget
  by_cases hc:0 < at_
  · rw [if_pos hc] at eq
    by_cases hr:at_ < x.f\/x.f + x.es.length - 1 < at_
    · rw [if_pos hr] at eq
      rw [hge,if_pos (by rw [hen]; exact hr)] at hget
      have F:=@hc
      refine rn F ?_
      repeat' (first
        | with_reducible exact ⟨⟩
        | refine vp F (hget) ?_)
      rw [<- eq]
      rfl
    · rw [if_neg hr] at eq
      rw [hge,if_neg (by rw [hen]; exact hr)] at hget
      have hk:(at_ - x.f).toNat < x.es.length:=by omega
      have hlsn:=((Wf.of hlg).ok _ hk).lsn
      have hpp:=QwM hlg hk
      obtain ⟨e,he⟩:∃ e,x.es.getD (at_ - x.f).toNat E0 = e:=⟨_,rfl⟩
      rw [he] at eq hget hlsn hpp
      dsimp only at hget
      have hfr:=Qnt e out (by rcases hl with rfl | h; exact Nat.zero_le _; omega)
      unfold E.d at hfr hget
      have hlen:(e :: out).length + (e.ptx - x.f + 1).toNat<=4096:=by rw [List.length_cons]; rcases hl with rfl | h; (rw [List.length_nil]; omega); omega
      rcases ht with ⟨ht,ha⟩ | ⟨ht,ha⟩
      · subst ha ht
        have F:=@hc
        refine rn F ?_
        repeat' (first
          | with_reducible exact ⟨⟩
          | (refine sG F ?_ ?_<;>intro hZ)
          | refine vp F (hget) ?_
          | refine vp F (hfr) ?_
          | (refine Qb (id:=16) [0,1,3,4] [⟨[],[],2,[3,4],[]⟩,⟨[],[],5,[3,4],[]⟩,⟨[],[],6,[],[]⟩] (by kernel_rfl) (by kernel_rfl) ?_; refine rn F ?_))
        all_goals first
          | (rw [if_neg (fun h=>h.1 (by assumption))] at eq; rw [<- eq]; rfl)
          | (rw [if_pos ⟨by assumption,.inl rfl⟩] at eq
             exact ⟨⟨n,e.ptx,hpp.1,by omega,e.tx,.inr ⟨by assumption,by omega⟩,e :: out,.inr hlen,eq⟩,by dsimp only; omega,(gc [0])⟩)
      · have hne:¬ at_ = last:=by omega
        have F:=(And.intro @hc @hne)
        refine rn F ?_
        repeat' (first
          | with_reducible exact ⟨⟩
          | (refine sG F ?_ ?_<;>intro hZ)
          | (refine sB F ?_ ?_<;>intro hZ)
          | refine vp F (hget) ?_
          | refine vp F (hfr) ?_
          | (refine Qb (id:=16) [0,1,3,4] [⟨[],[],2,[3,4],[]⟩,⟨[],[],5,[3,4],[]⟩,⟨[],[],6,[],[]⟩] (by kernel_rfl) (by kernel_rfl) ?_; refine rn F ?_))
        all_goals first
          | (rw [if_neg (fun h=>h.1 (by assumption))] at eq; rw [<- eq]; rfl)
          | (rw [if_neg (fun h=>h.2.elim ht (by assumption))] at eq; rw [<- eq]; rfl)
          | (rw [if_pos ⟨by assumption,.inr (by assumption)⟩,show e.tx = tx by assumption] at eq
             exact ⟨⟨n,e.ptx,hpp.1,by omega,tx,.inr ⟨ht,by omega⟩,e :: out,.inr hlen,eq⟩,by dsimp only; omega,(gc [0])⟩)
  · rw [if_neg hc] at eq
    have F:=@hc
    (refine rn F ?_; try with_reducible exact ⟨⟩)
    all_goals (rw [<- eq])
end
section
attribute [local go_sem] Ce.d Ch.d E.d Lg.c QJ Q3 QgI QhG Qho Qhn QhA QcW bkH
def Qjl (f:Int) (es:List E) (pv:E->Int) (a:Int) (k:Nat):List E:=(List.range k).map fun j=>Qdl f es (Qar f es pv a j)
theorem Qei (f:Int) (es:List E) (pv:E->Int) (a:Int) (k:Nat):(Qjl f es pv a k).length = k:=by simp [Qjl]
theorem Qeh (f:Int) (es:List E) (pv:E->Int) (a:Int) (k:Nat):Qjl f es pv a (k + 1) = Qjl f es pv a k ++ [Qdl f es (Qar f es pv a k)]:=by
  simp [Qjl,List.range_succ]
theorem QdS {x:Lg} (h:lgB x = true):Bef x.f x.es E.ppg:=fun i hi=>by
  have h1:=QwO h hi
  have h2:=((Wf.of h).ok i hi).lsn
  omega
theorem Qe1 {x:Lg} (h:lgB x = true):Bef x.f x.es E.ptx:=fun i hi=>by
  have h1:=QwM h hi
  have h2:=((Wf.of h).ok i hi).lsn
  omega
structure PgG (x:Lg) (page above last:Int) (res:List E × Int) (k:Nat):Prop where
  re:∀ j,j < k->Qhb x.f x.es (Qar x.f x.es E.ppg last j) = false
  eq:pgW x.f x.es page above (last.toNat + 1 - k) (Qar x.f x.es E.ppg last k) (Qjl x.f x.es E.ppg last k).reverse = res
theorem PgG.step {x:Lg} {page above last:Int} {res:List E × Int} {k:Nat} (hv:lgB x = true) (h:PgG x page above last res k) (h0:0<=above) (hl:0<=last) (ha:above < Qar x.f x.es E.ppg last k) :
    if Qhb x.f x.es (Qar x.f x.es E.ppg last k) = true then res = ([],14)
    else if QeB (Qdl x.f x.es (Qar x.f x.es E.ppg last k)) = true/\(Qdl x.f x.es (Qar x.f x.es E.ppg last k)).c.pg = page then PgG x page above last res (k + 1) else res = ([],13):=by
  have hm:=(QdJ (QdS hv) h.re).1
  have he:=h.eq
  obtain ⟨m,hm2⟩:∃ m,last.toNat + 1 - k = m + 1:=⟨last.toNat - k,by omega⟩
  rw [hm2,pgW,if_pos ha] at he
  split
  · rename_i hb
    rw [if_pos (by unfold Qhb at hb; simp at hb; omega)] at he
    exact he.symm
  · rename_i hb
    have hb:=Bool.eq_false_iff.2 hb
    have hb2:=Qe2 hb
    rw [if_neg (by omega)] at he
    split
    · rename_i hc
      unfold Qdl at hc
      rw [if_pos hc] at he
      refine ⟨fun j hj=>?_,?_⟩
      · rcases Nat.lt_succ_iff_lt_or_eq.1 hj with q | rfl
        · exact h.re j q
        · exact hb
      · rw [show last.toNat + 1 - (k + 1) = m by omega,Qa9,Qeh,List.reverse_append]
        exact he
    · rename_i hc
      unfold Qdl at hc
      rw [if_neg hc] at he
      exact he.symm
theorem PgG.done {x:Lg} {page above last:Int} {res:List E × Int} (hv:lgB x = true) (h0:0<=above) (hl:0<=last) (h:PgG x page above last res (QeA x.f x.es E.ppg above (last.toNat + 1) last)) :
    res = if Qar x.f x.es E.ppg last (QeA x.f x.es E.ppg above (last.toNat + 1) last) < above then ([],13) else ((Qjl x.f x.es E.ppg last (QeA x.f x.es E.ppg above (last.toNat + 1) last)).reverse,0):=by
  have hm:=(QdJ (QdS hv) h.re)
  have hn:=Qjb (QdS hv) h0 (Nat.lt_succ_self _) h.re
  have he:=h.eq
  generalize QeA x.f x.es E.ppg above (last.toNat + 1) last = N at *
  have hm1:Qar x.f x.es E.ppg last N + N<=last/\0<=Qar x.f x.es E.ppg last N:=⟨hm.1,hm.2.elim (fun e=>by subst e; exact hl) id⟩
  obtain ⟨m,hm2⟩:∃ m,last.toNat + 1 - N = m + 1:=⟨last.toNat - N,by omega⟩
  rw [hm2,pgW,if_neg hn] at he
  exact he.symm
theorem Qnd {f:Int} {es:List E} {pv:E->Int} (hpv:Bef f es pv) {a:Int} {k:Nat} (h:∀ j,j < k->Qhb f es (Qar f es pv a j) = false):k<=es.length:=by
  cases k with
  | zero=>exact Nat.zero_le _
  | succ k =>
    have h0:=Qe2 (h 0 (Nat.succ_pos _))
    have hk:=Qe2 (h k (Nat.lt_succ_self _))
    have:=(QdJ hpv (fun j hj=>h j (Nat.lt_succ_of_lt hj))).1
    rw [Qar] at h0
    omega
def pgI (x:Lg) (page above last:Int) (k:Nat):Qa:=[⟨25,true,x.c⟩,⟨3,true,[.int .i64 page]⟩,⟨23,true,[.pv (.slc [])]⟩,⟨45,true,[.int .i64 0]⟩,⟨23,true,[.own 10 13 0 k]⟩,⟨3,true,[.int .i64 (Qar x.f x.es E.ppg last k)]⟩] ++ bkH x last above 45 ++ [⟨60,true,cells encE (Qjl x.f x.es E.ppg last k)⟩]
theorem QzT (x:Lg) (hx:x.es.length<=9223372036854775807) (page last above:Int) (hlast:last<=9223372036854775807):VCalls prog 18 [.agg x.c,.int .i64 page,.int .i64 last,.int .i64 above] [] (Ret (.tup [.pv (.sl (fz encE (Qgw x page last above).1)),.int .i64 (Qgw x page last above).2])):=by
  refine VCalls.unwk ?_
  refine Qe7 (fn:=Tryz.f18) Tryz.func18 rfl (by kernel_rfl) (by simp [Tryz.f18]) ?_
  have hv:=Qdh x hx
  have eS:Qgw x page last above = if lgB x = false then ([],26) else if page < 0\/64<=page\/last < 0\/above < 0 then ([],1) else pgW x.f x.es page above (last.toNat + 1) last []:=rfl
  unfold Lg.c at hv
  refine VWp0.first ?_
  (unfold Tryz.f18; refine rn trivial ?_)
  refine VWp0.first ?_
  refine rn trivial ?_
  cases hlg:lgB x
  · rw [hlg] at hv
    refine rn F ?_
    repeat' (first
      | with_reducible exact ⟨⟩
      | refine vp F (hv) ?_)
    rw [eS,if_pos hlg]
    rfl
  rw [hlg] at hv
  rw [if_neg (by rw [hlg]; decide)] at eS
  refine rn F ?_
  repeat' (first
    | with_reducible exact ⟨⟩
    | (refine sG F ?_ ?_<;>intro hZ)
    | (refine sB F ?_ ?_<;>intro hZ)
    | refine vp F (hv) ?_)
  all_goals first
    | (rw [eS,if_pos (by omega)]; rfl)
    | skip
  have hes:x.es.length<=4096:=(QB hlg).2.2.1
  have hf1:=(QB hlg).1
  have hfm:=(QB hlg).2.1
  have h0:0<=above:=by assumption
  have hl0:0<=last:=by assumption
  rw [if_neg (by omega)] at eS
  generalize Qgw x page last above = res at *
  refine VWp0.first ?_
  refine rn trivial ?_
  refine VWp0.first ?_
  refine rn trivial ?_
  refine VWp0.then (VWp0.first ?_)
  refine rn trivial ?_
  refine QAT (x:=x) (ff:=45) ?_
  refine rn trivial ?_
  refine VWp0.block ?_
  refine VWp0.seqK (fn:=Tryz.f65) (caps:=[.ip [.lit (.int .i64 last)],.ip [.lit (.int .i64 above)],.ip (QgH x.f x.es x.d),.ip [.lit (.func (.func 45) #[] #[])]]) rfl Tryz.func65 (by kernel_rfl) (by kernel_rfl) (Qtg (d:=x.d) (QdS hlg) hf1 hfm hes h0 hlast QyR) (by show 38 < 71; decide) (by show 39 < 71; decide)
    (fun k=>.int .i64 (Qar x.f x.es E.ppg last k)) (fun k=>QsG x.f x.es (Qar x.f x.es E.ppg last k)) _ _ (fun k _=>rfl) (fun k W β1 hp1 _=>.pv _ _ (.lit _ rfl)) (fun k W β1 hp1 _=>DV.fix_rel (by unfold QsG; split<;>rfl))
    (pgI x page above last) (Qwx 4 0 60 13 rfl rfl rfl) (PgG x page above last res) ⟨fun j hj=>absurd hj (Nat.not_lt_zero _),eS.symm⟩
    (fun k W β1 us hh hr=>QBr hr (fun v h=>Qdd hh rfl h) (fun v h=>Qdd hh rfl h) (fun v h=>Qdd (cs:=QgH x.f x.es x.d) hh rfl h) (fun v h=>Qgr hh rfl h))
    (fun k hp'=>res.1 = []/\∃ rest:Qa,hp' = ([⟨25,true,x.c⟩,⟨3,true,[.int .i64 page]⟩,⟨23,true,[.pv (.slc [])]⟩,⟨45,true,[.int .i64 res.2]⟩] ++ rest:Qa)) (by kernel_rfl) (BodyOf.cut (K:=77) (by kernel_rfl) ?_ (by
      first
        | (repeat' constructor)
        | skip)) ?_ ?_ ?_
  · decide +kernel
  · intro k hk hG
    have hst:=hG.step hlg h0 hl0 (QdR hk)
    have hlen:=Qei x.f x.es E.ppg last k
    have hle:=Qnd (QdS hlg) hG.re
    have hlb:(k + 1) * 208<=140737488355328:=by omega
    have hsu:=Qeh x.f x.es E.ppg last k
    have hps:=Qa9 x.f x.es E.ppg last k
    unfold QfJ QAR pgI
    dsimp only
    unfold QsG
    rw [hps,hsu]
    generalize hpo:Qar x.f x.es E.ppg last k = a at *
    generalize hou:Qjl x.f x.es E.ppg last k = out at *
    generalize hen:Qdl x.f x.es a = e at *
    by_cases hb:Qhb x.f x.es a = true
    · rw [if_pos hb] at hst |-
      subst hst
      have F:=@hlen
      refine rn F ?_
      exact ⟨_,rfl⟩
    · rw [if_neg hb] at hst |-
      have hch':VCalls prog 43 [.agg e.d] [] (Ret (.bool (QeB e))):=QgX e
      unfold E.d at hch'
      cases hce:QeB e
      · rw [hce] at hch' hst
        rw [if_neg (fun h=>by cases h.1)] at hst
        subst hst
        have F:=@hlen
        refine rn F ?_
        repeat' (first
          | with_reducible exact ⟨⟩
          | refine vp F (hch') ?_)
        exact ⟨_,rfl⟩
      · rw [hce] at hch' hst
        have F:=@hlen
        refine rn F ?_
        repeat' (first
          | with_reducible exact ⟨⟩
          | (refine sB F ?_ ?_<;>intro hZ)
          | refine vp F (hch') ?_)
        · rw [if_neg (fun h=>hZ h.2)] at hst
          subst hst
          exact ⟨rfl,_,rfl⟩
        · rw [if_pos ⟨rfl,hZ⟩] at hst
          exact ⟨hst,Wk.weak (gc [0,1,2,3,4,5,6,7,8,9,13])⟩
  · intro hG
    have hdn:=hG.done hlg h0 hl0
    have hle:=Qnd (QdS hlg) hG.re
    have hlen:=Qei x.f x.es E.ppg last (QeA x.f x.es E.ppg above (last.toNat + 1) last)
    unfold pgI
    dsimp only
    refine VWpE.plain ?_
    clear hG eS
    generalize QeA x.f x.es E.ppg above (last.toNat + 1) last = N at *
    generalize Qar x.f x.es E.ppg last N = a at *
    generalize Qjl x.f x.es E.ppg last N = out at *
    subst hlen
    have hlr:out.reverse.length = out.length:=List.length_reverse
    by_cases ha:a < above
    · rw [if_pos ha] at hdn
      subst hdn
      have F:=@ha
      refine rn F ?_
      rfl
    · rw [if_neg ha] at hdn
      subst hdn
      have F:=@ha
      refine rn F ?_
      refine QwA (l:=out) (by omega) rfl ?_
      have F:=@hlr
      (refine rn F ?_; try with_reducible exact ⟨⟩)
  · rintro k hp' hk ⟨e1,rest,rfl⟩
    obtain ⟨r1,r2⟩:=res
    dsimp only at e1
    subst e1
    refine rn trivial ?_
    rfl
end
section
attribute [local go_sem] Ce.d Ch.d E.d Lg.c QJ Q3 QgI QhG Qho Qhn QhA QcW bkH
def txP (x:Lg) (last:Int) (k:Nat):Int:=if k = 0 then 0 else (Qdl x.f x.es last).tx
structure TxG (x:Lg) (last:Int) (res:List E × Int) (k:Nat):Prop where
  re:∀ j,j < k->Qhb x.f x.es (Qar x.f x.es E.ptx last j) = false
  ne:k ≠ 0->txP x last k ≠ 0
  eq:Qqp x.f x.es (last.toNat + 1 - k) (Qar x.f x.es E.ptx last k) (txP x last k) (Qjl x.f x.es E.ptx last k).reverse = res
theorem TxG.step {x:Lg} {last:Int} {res:List E × Int} {k:Nat} (hv:lgB x = true) (h:TxG x last res k) (hl:0<=last) (ha:0 < Qar x.f x.es E.ptx last k) :
    if Qhb x.f x.es (Qar x.f x.es E.ptx last k) = true then res = ([],14)
    else if (Qdl x.f x.es (Qar x.f x.es E.ptx last k)).tx ≠ 0/\(k = 0\/(Qdl x.f x.es (Qar x.f x.es E.ptx last k)).tx = (Qdl x.f x.es last).tx) then TxG x last res (k + 1) else res = ([],13):=by
  have hm:=(QdJ (Qe1 hv) h.re).1
  have he:=h.eq
  obtain ⟨m,hm2⟩:∃ m,last.toNat + 1 - k = m + 1:=⟨last.toNat - k,by omega⟩
  rw [hm2,Qqp,if_pos ha] at he
  have hk0:k = 0->Qar x.f x.es E.ptx last k = last:=fun e=>by subst e; rfl
  have hcase:txP x last k = 0\/(Qdl x.f x.es (Qar x.f x.es E.ptx last k)).tx = txP x last k ↔ (k = 0\/(Qdl x.f x.es (Qar x.f x.es E.ptx last k)).tx = (Qdl x.f x.es last).tx):=by
    by_cases h0:k = 0
    · simp [txP,h0]
    · have:=h.ne h0
      simp only [txP,if_neg h0] at this |-
      simp [this,h0]
  split
  · rename_i hb
    rw [if_pos (by unfold Qhb at hb; simp at hb; omega)] at he
    exact he.symm
  · rename_i hb
    have hb:=Bool.eq_false_iff.2 hb
    have hb2:=Qe2 hb
    rw [if_neg (by omega)] at he
    have hent:x.es.getD (Qar x.f x.es E.ptx last k - x.f).toNat E0 = Qdl x.f x.es (Qar x.f x.es E.ptx last k):=rfl
    rw [hent] at he
    split
    · rename_i hc
      rw [if_pos ⟨hc.1,hcase.2 hc.2⟩] at he
      have htx:(Qdl x.f x.es (Qar x.f x.es E.ptx last k)).tx = txP x last (k + 1):=by
        rw [txP,if_neg (Nat.succ_ne_zero k)]
        rcases hc.2 with e | e
        · rw [hk0 e]
        · exact e
      refine ⟨fun j hj=>?_,fun _=>by rw [<- htx]; exact hc.1,?_⟩
      · rcases Nat.lt_succ_iff_lt_or_eq.1 hj with q | rfl
        · exact h.re j q
        · exact hb
      · rw [show last.toNat + 1 - (k + 1) = m by omega,Qa9,Qeh,List.reverse_append,<- htx]
        exact he
    · rename_i hc
      rw [if_neg (fun q=>hc ⟨q.1,hcase.1 q.2⟩)] at he
      exact he.symm
theorem TxG.done {x:Lg} {last:Int} {res:List E × Int} (hv:lgB x = true) (hl:0<=last) (h:TxG x last res (QeA x.f x.es E.ptx 0 (last.toNat + 1) last)) :
    res = ((Qjl x.f x.es E.ptx last (QeA x.f x.es E.ptx 0 (last.toNat + 1) last)).reverse,0):=by
  have hm:=(QdJ (Qe1 hv) h.re)
  have hn:=Qjb (Qe1 hv) (Int.le_refl 0) (Nat.lt_succ_self _) h.re
  have he:=h.eq
  generalize QeA x.f x.es E.ptx 0 (last.toNat + 1) last = N at *
  have hm1:Qar x.f x.es E.ptx last N + N<=last/\0<=Qar x.f x.es E.ptx last N:=⟨hm.1,hm.2.elim (fun e=>by subst e; exact hl) id⟩
  obtain ⟨m,hm2⟩:∃ m,last.toNat + 1 - N = m + 1:=⟨last.toNat - N,by omega⟩
  rw [hm2,Qqp,if_neg hn] at he
  exact he.symm
def txI (x:Lg) (last:Int) (k:Nat):Qa:=[⟨25,true,x.c⟩,⟨23,true,[.pv (.slc [])]⟩,⟨45,true,[.int .i64 0]⟩,⟨23,true,[.own 8 13 0 k]⟩] ++ bkH x last 0 47 ++ [⟨60,true,cells encE (Qjl x.f x.es E.ptx last k)⟩]
theorem QEt (l:List E) (h:0 < l.length):(cells encE l)[2]? = some (.pv (.lit (.int .i64 (l.getD 0 E0).tx))):=by
  have:=QDt l 0 h
  rw [Nat.zero_mul,List.drop_zero] at this
  have h2:(cells encE l)[2]? = ((cells encE l).take 13)[2]?:=by rw [List.getElem?_take]; rfl
  rw [h2,this]
  rfl
theorem QCa (x:Lg) (hx:x.es.length<=9223372036854775807) (last:Int) (hlast:last<=9223372036854775807):VCalls prog 21 [.agg x.c,.int .i64 last] [] (Ret (.tup [.pv (.sl (fz encE (Qfv x last).1)),.int .i64 (Qfv x last).2])):=by
  refine VCalls.unwk ?_
  refine Qe7 (fn:=Tryz.f21) Tryz.func21 rfl (by kernel_rfl) (by simp [Tryz.f21]) ?_
  have hv:=Qdh x hx
  have eS:Qfv x last = if lgB x = false then ([],26) else if last < 0 then ([],1) else Qqp x.f x.es (last.toNat + 1) last 0 []:=rfl
  unfold Lg.c at hv
  refine VWp0.first ?_
  (unfold Tryz.f21; refine rn trivial ?_)
  refine VWp0.first ?_
  refine rn trivial ?_
  cases hlg:lgB x
  · rw [hlg] at hv
    refine rn F ?_
    repeat' (first
      | with_reducible exact ⟨⟩
      | refine vp F (hv) ?_)
    rw [eS,if_pos hlg]
    rfl
  rw [hlg] at hv
  rw [if_neg (by rw [hlg]; decide)] at eS
  refine rn F ?_
  repeat' (first
    | with_reducible exact ⟨⟩
    | (refine sB F ?_ ?_<;>intro hZ)
    | refine vp F (hv) ?_)
  all_goals first
    | (rw [eS,if_pos (by omega)]; rfl)
    | skip
  have hes:x.es.length<=4096:=(QB hlg).2.2.1
  have hf1:=(QB hlg).1
  have hfm:=(QB hlg).2.1
  have hl0:0<=last:=by omega
  rw [if_neg (by omega)] at eS
  generalize Qfv x last = res at *
  refine VWp0.first ?_
  refine rn trivial ?_
  refine VWp0.then (VWp0.first ?_)
  refine rn trivial ?_
  refine QAT (x:=x) (ff:=47) ?_
  refine rn trivial ?_
  refine VWp0.block ?_
  refine VWp0.seqK (fn:=Tryz.f65) (caps:=[.ip [.lit (.int .i64 last)],.ip [.lit (.int .i64 0)],.ip (QgH x.f x.es x.d),.ip [.lit (.func (.func 47) #[] #[])]]) rfl Tryz.func65 (by kernel_rfl) (by kernel_rfl) (Qtg (d:=x.d) (Qe1 hlg) hf1 hfm hes (Int.le_refl 0) hlast QC9) (by show 19 < 53; decide) (by show 20 < 53; decide)
    (fun k=>.int .i64 (Qar x.f x.es E.ptx last k)) (fun k=>QsG x.f x.es (Qar x.f x.es E.ptx last k)) _ _ (fun k _=>rfl) (fun k W β1 hp1 _=>.pv _ _ (.lit _ rfl)) (fun k W β1 hp1 _=>DV.fix_rel (by unfold QsG; split<;>rfl))
    (txI x last) (Qwx 3 0 60 13 rfl rfl rfl) (TxG x last res) ⟨fun j hj=>absurd hj (Nat.not_lt_zero _),fun h=>absurd rfl h,eS.symm⟩
    (fun k W β1 us hh hr=>QBr hr (fun v h=>Qdd hh rfl h) (fun v h=>Qdd hh rfl h) (fun v h=>Qdd (cs:=QgH x.f x.es x.d) hh rfl h) (fun v h=>Qgr hh rfl h))
    (fun k hp'=>res.1 = []/\∃ rest:Qa,hp' = ([⟨25,true,x.c⟩,⟨23,true,[.pv (.slc [])]⟩,⟨45,true,[.int .i64 res.2]⟩] ++ rest:Qa)) (by kernel_rfl) BodyOf.vr ?_ ?_ ?_
  · intro k hk hG
    have hst:=hG.step hlg hl0 (QdR hk)
    have hlen:=Qei x.f x.es E.ptx last k
    have hle:=Qnd (Qe1 hlg) hG.re
    have hlb:(k + 1) * 208<=140737488355328:=by omega
    have hsu:=Qeh x.f x.es E.ptx last k
    have hps:=Qa9 x.f x.es E.ptx last k
    have hg0:=QEt (Qjl x.f x.es E.ptx last k)
    have hfi:0 < k->(Qjl x.f x.es E.ptx last k).getD 0 E0 = Qdl x.f x.es last:=fun h=>by
      rw [Qk _ _ (by rw [Qei]; exact h)]
      simp [Qjl,Qar]
    unfold QfJ txI
    dsimp only
    unfold QsG
    rw [hsu]
    clear hG hps hsu
    generalize hpo:Qar x.f x.es E.ptx last k = a at *
    generalize hou:Qjl x.f x.es E.ptx last k = out at *
    generalize hen:Qdl x.f x.es a = e at *
    by_cases hb:Qhb x.f x.es a = true
    · rw [if_pos hb] at hst |-
      subst hst
      refine rn trivial ?_
      refine VR.block (VR.seq (VR.first rfl ?_))
      refine rn trivial ?_
      refine VR.cond rfl (fun hZ=>?_) (fun hZ=>?_)
      · refine VR.seq (VR.draw (by kernel_rfl) (by decide +kernel) ?_)
        refine rn trivial ?_
        refine VR.plain rfl ?_
        refine rn trivial ?_
        exact ⟨_,rfl⟩
      · cases hZ
    · rw [if_neg hb] at hst |-
      refine rn trivial ?_
      refine VR.block (VR.seq (VR.first rfl ?_))
      refine rn trivial ?_
      refine VR.cond rfl (fun hZ=>?_) (fun hZ=>?_)
      · cases hZ
      refine VR.plain rfl ?_
      refine rn trivial ?_
      refine VR.seq (VR.seq (VR.draw (by kernel_rfl) (by decide +kernel) ?_))
      by_cases hk0:k = 0
      · subst hk0
        have F:=@hlen
        refine rn F ?_
        repeat' (first
          | with_reducible exact ⟨⟩
          | (refine sD F ?_ ?_<;>intro hZ))
        · refine VR.cond rfl (fun hY=>?_) (fun hY=>?_)
          · cases hY
          refine VR.plain rfl ?_
          refine rn trivial ?_
          refine VR.plain rfl ?_
          rw [if_pos ⟨hZ,.inl rfl⟩] at hst
          obtain rfl:out = []:=List.length_eq_zero_iff.1 hlen
          refine rn trivial ?_
          exact ⟨hst,Wk.weak (gc [0,1,2,3,4,5,6,7,11])⟩
        · refine VR.cond rfl (fun hY=>?_) (fun hY=>?_)
          · refine VR.plain rfl ?_
            rw [if_neg (fun h=>h.1 hZ)] at hst
            subst hst
            refine rn trivial ?_
            exact ⟨_,rfl⟩
          · cases hY
      · have hk1:0 < k:=by omega
        rw [hlen] at hg0
        have hg0:=hg0 hk1
        rw [hfi hk1] at hg0
        have F:=(And.intro @hlen @hg0)
        refine rn F ?_
        repeat' (first
          | with_reducible exact ⟨⟩
          | (refine sD F ?_ ?_<;>intro hZ))
        · refine VR.cond rfl (fun hY=>?_) (fun hY=>?_)
          · refine VR.plain rfl ?_
            rw [if_neg (fun h=>by rcases h.2 with q | q; exact hk0 q; simp [q] at hY)] at hst
            subst hst
            refine rn trivial ?_
            exact ⟨_,rfl⟩
          refine VR.plain rfl ?_
          refine rn trivial ?_
          refine VR.plain rfl ?_
          rw [if_pos ⟨hZ,.inr (by simpa using hY)⟩] at hst
          refine rn @hlen ?_
          exact ⟨hst,Wk.weak (gc [0,1,2,3,4,5,6,7,11])⟩
        · refine VR.cond rfl (fun hY=>?_) (fun hY=>?_)
          · refine VR.plain rfl ?_
            rw [if_neg (fun h=>h.1 hZ)] at hst
            subst hst
            refine rn trivial ?_
            exact ⟨_,rfl⟩
          · cases hY
  · intro hG
    have hdn:=hG.done hlg hl0
    have hle:=Qnd (Qe1 hlg) hG.re
    have hlen:=Qei x.f x.es E.ptx last (QeA x.f x.es E.ptx 0 (last.toNat + 1) last)
    unfold txI
    dsimp only
    refine VWpE.plain ?_
    clear hG eS
    generalize QeA x.f x.es E.ptx 0 (last.toNat + 1) last = N at *
    generalize Qar x.f x.es E.ptx last N = a at *
    generalize Qjl x.f x.es E.ptx last N = out at *
    subst hlen
    have hlr:out.reverse.length = out.length:=List.length_reverse
    subst hdn
    have F:=trivial
    refine rn F ?_
    refine QwA (l:=out) (by omega) rfl ?_
    have F:=@hlr
    (refine rn F ?_; try with_reducible exact ⟨⟩)
  · rintro k hp' hk ⟨e1,rest,rfl⟩
    obtain ⟨r1,r2⟩:=res
    dsimp only at e1
    subst e1
    refine rn trivial ?_
    rfl
end
section
attribute [local go_sem] Ce.d Ch.d E.d Lg.c QJ Q3 QgI QhG Qho Qhn QhA QAz QAE QAv QAu QhF
theorem QmK {f:Int} {es:List E} (W:Wf f es) (hl:es.length<=4096):∀ (n:Nat) (a tx:Int) (out:List E),(out = []\/out.length + (a - f + 1).toNat<=4096)->(Qqp f es n a tx out).1.length<=4096
  | 0,_,_,_,_=>Nat.zero_le _
  | n + 1,a,tx,out,h=>by
    rw [Qqp]
    split
    · split
      · exact Nat.zero_le _
      · rename_i hr
        split
        · refine QmK W hl n _ _ _ (.inr ?_)
          have hw:=W.ok (a - f).toNat (by omega)
          have h1:=hw.lsn
          have h2:=hw.ptx
          rw [List.length_cons]
          rcases h with rfl | h
          · rw [List.length_nil]; omega
          · omega
        · exact Nat.zero_le _
    · dsimp only
      rcases h with rfl | h
      · exact Nat.zero_le _
      · omega
theorem QfH (x:Lg) (last:Int):(Qfv x last).1.length<=4096:=by
  unfold Qfv
  split
  · exact Nat.zero_le _
  · rename_i hv
    have hv:lgB x = true:=by cases h:lgB x<;>simp_all
    split
    · exact Nat.zero_le _
    · exact QmK (Wf.of hv) (QB hv).2.2.1 _ _ _ _ (.inl rfl)
def QaY (es:List E):Nat->List Int
  | 0=>[]
  | k + 1=>if (es.getD k E0).kind ≠ 1\/QmC es es.length (es.getD k E0).lsn = true then QaY es k else QaY es k ++ [(es.getD k E0).lsn]
theorem QcG (es:List E):∀ k,(QaY es k).length<=k
  | 0=>Nat.le_refl _
  | k + 1=>by
    rw [QaY]
    have:=QcG es k
    split
    · omega
    · rw [List.length_append]; simp; omega
def Qgu (x:Lg) (last:Int):List Int × Int:=if (Qfv x last).2 ≠ 0 then ([],(Qfv x last).2) else (QaY (Qfv x last).1 (Qfv x last).1.length,0)
theorem Qys (x:Lg) (hx:x.es.length<=9223372036854775807) (last:Int):VCalls prog 28 [.agg x.c,.int .i64 last] [] (Ret (.tup [.pv (.sl (fz QN (Qgu x last).1)),.int .i64 (Qgu x last).2])):=by
  refine VCalls.unwk ?_
  refine dd Tryz.func28 ?_
  have ht:=QwG x hx last
  have hl:=QfH x last
  have eS:Qgu x last = if (Qfv x last).2 ≠ 0 then ([],(Qfv x last).2) else (QaY (Qfv x last).1 (Qfv x last).1.length,0):=rfl
  unfold Lg.c at ht
  generalize Qgu x last = res at *
  generalize Qfv x last = t at *
  obtain ⟨es,er⟩:=t
  dsimp only at ht hl eS
  (unfold Tryz.f28; refine rn trivial ?_)
  refine rn F ?_
  repeat' (first
    | with_reducible exact ⟨⟩
    | (refine sB F ?_ ?_<;>intro hZ)
    | refine vp F (ht) ?_)
  · rw [eS,if_pos hZ]
    rfl
  have hz:=hZ
  subst hz
  rw [if_neg (fun h=>h rfl)] at eS
  refine VLoop.nilOwn 8 3 1 rfl ?_
  refine Qg (fun s:To es.length=>⟨72,0,[(9,.int .i64 s.i),(8,.own 0 1 0 (QaY es s.i).length),(6,.pv (.sl (fz encE es)))],[⟨3,true,cells QN (QaY es s.i)⟩]⟩) (fun s=>es.length - s.i) ⟨0,Nat.zero_le _⟩ (gc [1]) ?_
  rintro ⟨k,hk⟩
  dsimp only
  have hpl:=QcG es k
  have hcl:(cells QN (QaY es k)).length = (QaY es k).length:=Qdq _
  have hpn:QaY es (k + 1) = if (es.getD k E0).kind ≠ 1\/QmC es es.length (es.getD k E0).lsn = true then QaY es k else QaY es k ++ [(es.getD k E0).lsn]:=rfl
  by_cases hc:k < es.length
  · have hc' : ((k:Nat):Int) < es.length:=by omega
    have hg:=QeV es k hc
    obtain ⟨e,he⟩:∃ e,es.getD k E0 = e:=⟨_,rfl⟩
    rw [he] at hg hpn
    have F:=(And.intro @hc' @hg)
    refine rn F ?_
    obtain ⟨b0,hb0⟩:∃ b0,b0 = (e.kind != 1):=⟨_,rfl⟩
    rw [<- hb0]
    refine Qg (fun s:To es.length=>⟨72,0,[(11,.int .i64 s.i),(10,.bool (b0 || exE es s.i (undp e.lsn))),(9,.int .i64 k),(8,.own 0 1 0 (QaY es k).length),(6,.pv (.sl (fz encE es)))],[⟨3,true,cells QN (QaY es k)⟩]⟩) (fun s=>es.length - s.i) ⟨0,Nat.zero_le _⟩ (by rw [show (b0 || exE es 0 (undp e.lsn)) = b0 by simp [exE]]; exact (gc [0])) ?_
    rintro ⟨j,hj⟩
    dsimp only
    have hs:=Qdk es j (undp e.lsn)
    by_cases hcj:j < es.length
    · have hcj':((j:Nat):Int) < es.length:=by omega
      have hgj:=QeV es j hcj
      obtain ⟨y,hy⟩:∃ y,es.getD j E0 = y:=⟨_,rfl⟩
      rw [hy] at hgj hs
      generalize exE es j (undp e.lsn) = q at *
      cases hoq:(b0 || q)
      · skip
        have F:=(And.intro @hcj' (And.intro @hgj @hg))
        refine rn F ?_
        repeat' (first
          | with_reducible exact ⟨⟩
          | (refine sG F ?_ ?_<;>intro hZ)
          | (refine Qb (id:=12) [0,1,2,3,4,5,6,7,8,9,10,11,12,13,14,15,16,17,18,19,20,21] [⟨[],[],22,[],[]⟩] (by kernel_rfl) (by kernel_rfl) ?_; refine rn F ?_))
        all_goals (refine ⟨⟨j + 1,hcj⟩,by dsimp only; omega,?_⟩; dsimp only; rw [hs,<- Bool.or_assoc,hoq,Bool.false_or])
        all_goals first
          | (have hh:undp e.lsn y = decide (y.ref = e.lsn):=by (simp [undp, *]; done)
             rw [hh,<- Bool.beq_eq_decide_eq]; exact (gc [0]))
          | (have hh:undp e.lsn y = decide (y.ref = e.lsn):=by (simp [undp, *]; done)
             rw [hh]; exact (gc [0]))
          | (have hh:undp e.lsn y = false:=by (simp [undp, *]; done)
             rw [hh]; exact (gc [0]))
      · skip
        have F:=(And.intro @hcj' (And.intro @hgj @hg))
        refine rn F ?_
        repeat' (first
          | with_reducible exact ⟨⟩
          | (refine Qb (id:=12) [0,1,2,3,4,5,6,7,8,9,10,11,12,13,14,15,16,17,18,19,20,21] [⟨[],[],22,[],[]⟩] (by kernel_rfl) (by kernel_rfl) ?_; refine rn F ?_))
        all_goals (refine ⟨⟨j + 1,hcj⟩,by dsimp only; omega,?_⟩; dsimp only; rw [hs,<- Bool.or_assoc,hoq,Bool.true_or]; exact (gc [0]))
    · have hcj':¬ ((j:Nat):Int) < es.length:=by omega
      have hje:j = es.length:=by omega
      subst hje
      have hb:((QaY es k).length + 1) * 8<=140737488355328:=Nat.le_trans (Nat.mul_le_mul_right 8 (show (QaY es k).length + 1<=100003 by omega)) (by decide)
      have hu:QmC es es.length e.lsn = exE es es.length (undp e.lsn):=rfl
      generalize exE es es.length (undp e.lsn) = q at *
      cases hoq:(b0 || q)
      · skip
        have F:=(And.intro @hcj' (And.intro @hg (And.intro @hb @hcl)))
        refine rn F ?_
        rw [Bool.or_eq_false_iff] at hoq
        refine ⟨⟨k + 1,hc⟩,by dsimp only; omega,?_⟩
        dsimp only
        rw [hpn,if_neg (by rw [hu,hoq.2]; rintro (h | h); exact h (by simpa [hoq.1] using hb0); cases h),List.length_append,List.length_cons,List.length_nil]
        exact (gc [2])
      · skip
        have F:=(And.intro @hcj' (And.intro @hg (And.intro @hb @hcl)))
        refine rn F ?_
        rw [Bool.or_eq_true] at hoq
        refine ⟨⟨k + 1,hc⟩,by dsimp only; omega,?_⟩
        dsimp only
        rw [hpn,if_pos (by rw [hu]; rcases hoq with h | h; (rw [h] at hb0; exact .inl (by simpa using hb0.symm)); exact .inr h)]
        exact (gc [0])
  · have hc':¬ ((k:Nat):Int) < es.length:=by omega
    have hke:k = es.length:=by omega
    subst hke
    have F:=(And.intro @hc' @hcl)
    refine rn F ?_
    rw [eS]
end
theorem Qq5 (a:List Int) (ha:a.length<=1000000):VCalls prog 23 [.pv (.sl (fz QN a)),.pv (.sl (fz QN a))] [] (Ret (.bool true)):=by
  refine dd Tryz.func23 ?_
  (unfold Tryz.f23; refine rn trivial ?_)
  refine rn F ?_
  refine Qg (fun s:To a.length=>⟨26,0,[(5,.int .i64 s.i),(0,.pv (.sl (fz QN a))),(1,.pv (.sl (fz QN a)))],[]⟩) (fun s=>a.length - s.i) ⟨0,Nat.zero_le _⟩ (gc []) ?_
  rintro ⟨k,hk⟩
  dsimp only
  by_cases hc:k < a.length
  · have hc':((k:Nat):Int) < a.length:=by omega
    have hg:=QX a k hc
    have F:=(And.intro @hc' @hg)
    refine rn F ?_
    repeat' (first
      | with_reducible exact ⟨⟩
      | (refine Qb (id:=6) [0,1,2,3,4,5,6,7,8] [] (by kernel_rfl) (by kernel_rfl) ?_; refine rn F ?_))
    exact ⟨⟨k + 1,hc⟩,by dsimp only; omega,(gc [])⟩
  · have hc':¬ ((k:Nat):Int) < a.length:=by omega
    have F:=@hc'
    (refine rn F ?_; try with_reducible exact ⟨⟩)
section
attribute [local go_sem] Ce.d Ch.d E.d QgI QhG Qho Qhn QhA QcW QAz QAE QAv QAu QhF Qtz Qty E.q Nat.not_lt_zero Lg.c
def Qqi (es:List E):Nat->List (Int × DV)
  | 0=>[]
  | i + 1=>if (es.getD i E0).kind = 2 then Qha (Qqi es i) (es.getD i E0).ref (.bool true) else Qqi es i
theorem QmE (es:List E) (n:Int):∀ i,QgP (Qqi es i) n = if QmC es i n = true then some (.bool true) else none
  | 0=>rfl
  | i + 1=>by
    rw [Qqi,QcC]
    have ih:=QmE es n i
    generalize es.getD i E0 = e at *
    by_cases hk:e.kind = 2
    · rw [if_pos hk,Qnr,ih]
      by_cases hr:e.ref = n
      · rw [if_pos hr]
        simp [undp,hk,hr]
      · rw [if_neg hr]
        simp [undp,hr]
    · rw [if_neg hk,ih]
      simp [undp,hk]
structure PA (b:Nat) (n:Nat) where
  i:Nat
  hi:i<=n
  hp:Qa
def OutOk (hp:Qa) (l:List Int) (p:DV):Prop:=(l = []/\p = .pv (.slc []))\/∃ k,p = .own k 1 0 l.length/\k < hp.length/\hp[k]? = some ⟨3,true,cells QN l⟩
structure PB (es:List E) where
  i:Nat
  hi:i<=es.length
  hp:Qa
  p:DV
  ok:OutOk hp (QaY es i) p
theorem OutOk.app {hp:Qa} {l:List Int} {p:DV} (h:OutOk hp l p) (r:Qa):OutOk (hp ++ r) l p:=by
  rcases h with h | ⟨k,e1,e2,e3⟩
  · exact .inl h
  · exact .inr ⟨k,e1,by rw [List.length_append]; omega,by rw [List.getElem?_append_left e2]; exact e3⟩
theorem QiU (c:Qpl) (es:List E) (bu b0 i:Nat) (hlt:i < es.length) (S:St) (p:DV) (g:MapsD) (ok:OutOk S.hp (QaY es (i + 1)) p) (hn:S.nt = 60)
    (ht:∀ q ∈ [(39,DV.int .i64 ((i + 1:Nat):Int)),(38,DV.int .i64 es.length),(37,DV.pv (.sl (fz encE es))),(11,p),(8,DV.pv (.lit (.map (some bu))))],V.look S.tm q.1 = q.2\/q.2 = .any) :
    ∃ j:PB es,es.length - j.i < es.length - i/\WeakG (Qcm c) S g ⟨60,b0,[(39,.int .i64 j.i),(38,.int .i64 es.length),(37,.pv (.sl (fz encE es))),(11,j.p),(8,.pv (.lit (.map (some bu))))],j.hp⟩ g:=
  ⟨⟨i + 1,hlt,S.hp,p,ok⟩,by dsimp only; omega,WeakG.slots hn rfl ht⟩
theorem QzS (x:Lg) (hx:x.es.length<=9223372036854775807) (last:Int) (hlast:last<=9223372036854775807):VCalls prog 27 [.agg x.c,.int .i64 last] [] (Ret (.tup [.pv (.sl (fz QN (Qgu x last).1)),.int .i64 (Qgu x last).2])):=by
  refine VCalls.unwk ?_
  refine QdC (fn:=Tryz.f27) Tryz.func27 rfl (by kernel_rfl) (by simp [Tryz.f27]) (fun c=>?_)
  have ht:=QCa x hx last hlast
  have hl:=QfH x last
  have eS:Qgu x last = if (Qfv x last).2 ≠ 0 then ([],(Qfv x last).2) else (QaY (Qfv x last).1 (Qfv x last).1.length,0):=rfl
  unfold Lg.c at ht
  generalize Qgu x last = res at *
  generalize Qfv x last = t at *
  obtain ⟨es,er⟩:=t
  dsimp only at ht hl eS
  refine VWpG.first (Qc c) ?_
  (unfold Tryz.f27; refine rn trivial ?_)
  refine VWpG.seq ?_
  refine VWpG.plain (Qc c) ?_
  refine rn trivial ?_
  refine Qax ht rfl ?_
  refine rn trivial ?_
  by_cases he:er = 0
  rotate_left
  · rw [if_pos he] at eS
    subst eS
    refine VWpG.seq ?_
    refine VWpG.first (Qc c) ?_
    refine rn @he ?_
    refine VWpG.cond rfl (fun hZ=>?_) (fun hZ=>?_)
    · refine VWpG.plain (Qc c) ?_
      refine rn trivial ?_
      rfl
    · cases hZ
  subst he
  rw [if_neg (fun h=>h rfl)] at eS
  subst eS
  refine VWpG.seq ?_
  refine VWpG.first (Qc c) ?_
  refine rn trivial ?_
  refine VWpG.cond rfl (fun hZ=>?_) (fun hZ=>?_)
  · cases hZ
  refine VWpG.plain (Qc c) ?_
  refine rn trivial ?_
  refine VWpG.seq ?_
  refine VWpG.cut1 (Qc c) 0 [] ?_
  refine rn trivial ?_
  refine Qdf rfl (fun c=>by simp) (Qet rfl rfl fun bu h3=>?_)
  refine rn trivial ?_
  refine VWpG.seq ?_
  refine VWpG.first (Qc c) ?_
  refine rn trivial ?_
  refine VWpG.block ?_
  refine VWpG.loop (fun s:PA bu es.length=>⟨60,1,[(26,.int .i64 s.i),(25,.int .i64 es.length),(24,.pv (.sl (fz encE es))),(8,.pv (.lit (.map (some bu)))),(6,.pv (.sl (fz encE es)))],s.hp⟩) (fun s=>[(bu,QcQ kI (Qqi es s.i))]) (fun s=>es.length - s.i) ⟨0,Nat.zero_le _,[⟨25,true,[.int .i64 x.f,.pv (.sl (fz encE x.es)),.int .i64 x.d]⟩]⟩ ?_ ?_
  · refine WeakG.slots rfl rfl ?_
    intro p hp
    simp only [List.mem_cons,List.not_mem_nil,or_false] at hp
    rcases hp with rfl | rfl | rfl | rfl | rfl<;>exact .inl rfl
  rintro ⟨i,hi,hp⟩
  dsimp only
  refine VWpG.first (Qc c) ?_
  refine rn trivial ?_
  refine VWpG.seq ?_
  by_cases hlt:i < es.length
  · have hg:=QvP es i hlt
    have hd:decide ((i:Int) < es.length) = true:=by simp; omega
    refine VWpG.cond (t:=true) (by rw [<- hd]; rfl) (fun _=>?_) (fun h=>by cases h)
    refine VWpG.plain (Qc c) ?_
    refine rn trivial ?_
    refine VWpG.seq ?_
    refine VWpG.block ?_
    have hu:Qqi es (i + 1) = if (es.getD i E0).kind = 2 then Qha (Qqi es i) (es.getD i E0).ref (.bool true) else Qqi es i:=rfl
    generalize es.getD i E0 = e at *
    refine VWpG.first (Qc c) ?_
    refine rn @hg ?_
    refine VWpG.first (Qc c) ?_
    refine rn trivial ?_
    by_cases hk:e.kind = 2
    · rw [if_pos hk] at hu
      refine VWpG.cond (t:=true) (by rw [hk]; rfl) (fun hZ=>?_) (fun hZ=>?_)
      rotate_left
      · cases hZ
      refine VWpG.cut1 (Qc c) 3 [] ?_
      refine rn trivial ?_
      refine Qdf rfl (fun c=>by simp) (Qja (L:=Qqi es i) (k:=e.ref) rfl rfl um3 Qza rfl (List.mem_singleton.2 rfl) (QdL rfl) ?_)
      refine rn trivial ?_
      refine VWpG.plain (Qc c) ?_
      refine rn trivial ?_
      refine ⟨⟨i + 1,hlt,hp ++ [⟨60,true,e.d⟩]⟩,by dsimp only; omega,?_⟩
      dsimp only
      rw [hu]
      refine WeakG.slots rfl rfl ?_
      intro p hp
      simp only [List.mem_cons,List.not_mem_nil,or_false] at hp
      rcases hp with rfl | rfl | rfl | rfl | rfl<;>exact .inl rfl
    · rw [if_neg hk] at hu
      have hd2:decide (e.kind = 2) = false:=decide_eq_false hk
      refine VWpG.cond (t:=false) (by rw [<- hd2]; rfl) (fun hZ=>?_) (fun hZ=>?_)
      · cases hZ
      refine VWpG.plain (Qc c) ?_
      refine rn trivial ?_
      refine VWpG.plain (Qc c) ?_
      refine rn trivial ?_
      refine ⟨⟨i + 1,hlt,hp ++ [⟨60,true,e.d⟩]⟩,by dsimp only; omega,?_⟩
      dsimp only
      rw [hu]
      refine WeakG.slots rfl rfl ?_
      intro p hp
      simp only [List.mem_cons,List.not_mem_nil,or_false] at hp
      rcases hp with rfl | rfl | rfl | rfl | rfl<;>exact .inl rfl
  · have hd:decide ((i:Int) < es.length) = false:=by simp; omega
    have hie:i = es.length:=by omega
    subst hie
    refine VWpG.cond (t:=false) (by rw [<- hd]; rfl) (fun h=>by cases h) (fun _=>?_)
    refine VWpG.plain (Qc c) ?_
    refine rn trivial ?_
    refine VWpG.first (Qc c) ?_
    refine rn trivial ?_
    refine VWpG.seq ?_
    refine VWpG.first (Qc c) ?_
    refine rn trivial ?_
    refine VWpG.block ?_
    refine VWpG.loop (fun s:PB es=>⟨60,hp.length,[(39,.int .i64 s.i),(38,.int .i64 es.length),(37,.pv (.sl (fz encE es))),(11,s.p),(8,.pv (.lit (.map (some bu))))],s.hp⟩) (fun s=>[(bu,QcQ kI (Qqi es es.length))]) (fun s=>es.length - s.i) ⟨0,Nat.zero_le _,hp,.pv (.slc []),.inl ⟨rfl,rfl⟩⟩ ?_ ?_
    · refine WeakG.slots rfl rfl ?_
      intro p hp
      simp only [List.mem_cons,List.not_mem_nil,or_false] at hp
      rcases hp with rfl | rfl | rfl | rfl | rfl<;>exact .inl rfl
    rintro ⟨i,hi,hp2,p,ok⟩
    dsimp only
    refine VWpG.first (Qc c) ?_
    refine rn trivial ?_
    refine VWpG.seq ?_
    by_cases hlt:i < es.length
    · have hg:=QvP es i hlt
      have hd:decide ((i:Int) < es.length) = true:=by simp; omega
      refine VWpG.cond (t:=true) (by rw [<- hd]; rfl) (fun _=>?_) (fun h=>by cases h)
      refine VWpG.plain (Qc c) ?_
      refine rn trivial ?_
      refine VWpG.seq ?_
      refine VWpG.block ?_
      have hpn:QaY es (i + 1) = if (es.getD i E0).kind ≠ 1\/QmC es es.length (es.getD i E0).lsn = true then QaY es i else QaY es i ++ [(es.getD i E0).lsn]:=rfl
      generalize es.getD i E0 = e at *
      refine VWpG.first (Qc c) ?_
      refine rn @hg ?_
      by_cases hk1:e.kind = 1
      rotate_left
      · rw [if_pos (.inl hk1)] at hpn
        refine VWpG.first (Qc c) ?_
        refine rn @hk1 ?_
        refine VWpG.cond rfl (fun hZ=>?_) (fun hZ=>?_)
        · cases hZ
        refine VWpG.plain (Qc c) ?_
        refine rn trivial ?_
        refine VWpG.plain (Qc c) ?_
        refine rn trivial ?_
        refine QiU c es bu _ i hlt _ p _ ?_ rfl ?_
        · rw [hpn]; exact ok.app _
        · skip
          intro q hq
          simp only [List.mem_cons,List.not_mem_nil,or_false] at hq
          rcases hq with rfl | rfl | rfl | rfl | rfl<;>exact .inl rfl
      refine VWpG.seq ?_
      refine VWpG.cut1 (Qc c) 7 [] ?_
      refine rn @hk1 ?_
      refine Qdf rfl (fun c=>by simp) (QkX (zv:=.bool false) (L:=Qqi es es.length) (k:=e.lsn) rfl rfl um3 Qza (Qd5 z3) (QfE rfl) rfl (List.mem_singleton.2 rfl) (QdL rfl) ?_)
      rw [QmE]
      cases hun:QmC es es.length e.lsn
      rotate_left
      · rw [if_pos (.inr hun)] at hpn
        refine rn trivial ?_
        refine VWpG.cond rfl (fun hZ=>?_) (fun hZ=>?_)
        · cases hZ
        refine VWpG.plain (Qc c) ?_
        refine rn trivial ?_
        refine VWpG.plain (Qc c) ?_
        refine rn trivial ?_
        refine QiU c es bu _ i hlt _ p _ ?_ rfl ?_
        · rw [hpn]; exact ok.app _
        · skip
          intro q hq
          simp only [List.mem_cons,List.not_mem_nil,or_false] at hq
          rcases hq with rfl | rfl | rfl | rfl | rfl<;>exact .inl rfl
      rw [if_neg (by rw [hun]; simp [hk1])] at hpn
      refine rn trivial ?_
      refine VWpG.cond rfl (fun hZ=>?_) (fun hZ=>?_)
      rotate_left
      · cases hZ
      have hpl:=QcG es i
      have hlb:((QaY es i).length + 1) * 8<=140737488355328:=by omega
      rcases ok with ⟨h0,rfl⟩ | ⟨k,rfl,hk,hkb⟩
      · refine VWpG.plain (Qc c) ?_
        refine rn trivial ?_
        refine VWpG.plain (Qc c) ?_
        refine rn trivial ?_
        refine QiU c es bu _ i hlt _ (.own (hp2.length + 1 + 1) 1 0 1) _ ?_ rfl ?_
        · rw [hpn,h0]
          exact .inr ⟨_,rfl,by simp,by rw [Qmd (by simp)]; simp; rfl⟩
        · skip
          intro q hq
          simp only [List.mem_cons,List.not_mem_nil,or_false] at hq
          rcases hq with rfl | rfl | rfl | rfl | rfl<;>exact .inl rfl
      · have hkc:Qf hp2 k = some (cells QN (QaY es i)):=Qje hkb
        refine VWpG.plain (Qc c) ?_
        refine rn (And.intro @hk (And.intro @hkb @hkc)) ?_
        refine VWpG.plain (Qc c) ?_
        refine rn trivial ?_
        refine QiU c es bu _ i hlt _ (.own (hp2.length + 1 + 1) 1 0 ((QaY es i).length + 1)) _ ?_ rfl ?_
        · rw [hpn]
          exact .inr ⟨_,by rw [List.length_append]; rfl,by simp,by rw [Qmd (by simp)]; simp⟩
        · skip
          intro q hq
          simp only [List.mem_cons,List.not_mem_nil,or_false] at hq
          rcases hq with rfl | rfl | rfl | rfl | rfl<;>exact .inl rfl
    · have hd:decide ((i:Int) < es.length) = false:=by simp; omega
      have hie:i = es.length:=by omega
      subst hie
      refine VWpG.cond (t:=false) (by rw [<- hd]; rfl) (fun h=>by cases h) (fun _=>?_)
      refine VWpG.plain (Qc c) ?_
      refine rn trivial ?_
      have hpl:=QcG es es.length
      rcases ok with ⟨h0,rfl⟩ | ⟨k,rfl,hk,hkb⟩
      · refine VWpG.plain (Qc c) ?_
        refine rn trivial ?_
        rw [h0]
        rfl
      · have hkc:Qf hp2 k = some (cells QN (QaY es es.length)):=Qje hkb
        refine VWpG.plain (Qc c) ?_
        (refine rn (And.intro @hk (And.intro @hkb @hkc)) ?_; try with_reducible exact ⟨⟩)
end
def unf (s:List UInt8) (a:Int):List UInt8 × Int × Int:=
  if a < 0\/(s.length:Int) < a then ([],0,1)
  else if ¬ a.toNat + 4<=s.length then ([],0,5)
  else if 8392 < n4 s a.toNat then ([],0,2)
  else if ¬ a.toNat + 4 + n4 s a.toNat + 4<=s.length then ([],0,5)
  else if ¬ (n4 s (a.toNat + 4 + n4 s a.toNat):Int) = QlD ((s.take (a.toNat + 4 + n4 s a.toNat)).drop a.toNat) then ([],0,3)
  else ((s.take (a.toNat + 4 + n4 s a.toNat)).drop (a.toNat + 4),(a.toNat + 4 + n4 s a.toNat + 4:Nat),0)
theorem QwB (s:List UInt8) (a:Int):(unf s a).1.length<=s.length/\((unf s a).2.2 = 0->0<=a/\0<=(unf s a).2.1/\(unf s a).2.1<=s.length):=by
  unfold unf
  split
  · exact ⟨Nat.zero_le _,fun h=>by simp at h⟩
  rename_i h1
  split
  · exact ⟨Nat.zero_le _,fun h=>by simp at h⟩
  split
  · exact ⟨Nat.zero_le _,fun h=>by simp at h⟩
  split
  · exact ⟨Nat.zero_le _,fun h=>by simp at h⟩
  rename_i h2
  split
  · exact ⟨Nat.zero_le _,fun h=>by simp at h⟩
  · refine ⟨by dsimp only; rw [List.length_drop,List.length_take]; omega,fun _=>⟨by omega,by dsimp only; omega,by dsimp only; omega⟩⟩
def QCK (s:List UInt8) (a:Int):DV:=.tup [.pv (.str (unf s a).1),.int .i64 (unf s a).2.1,.int .i64 (unf s a).2.2]
theorem QhW (s:List UInt8) (hs:s.length<=100000000) (a:Int):VCalls prog 216 [.pv (.str s),.int .i64 a] [] (Ret (QCK s a)):=by
  refine dd Tryz.func216 ?_
  unfold QCK unf
  by_cases h1:a < 0
  · rw [if_pos (.inl h1)]
    (unfold Tryz.f216; refine rn @h1 ?_; try with_reducible exact ⟨⟩)
  · by_cases h2:(s.length:Int) < a
    · rw [if_pos (.inr h2)]
      (unfold Tryz.f216; refine rn (And.intro @h1 @h2) ?_; try with_reducible exact ⟨⟩)
    · rw [if_neg (by omega)]
      obtain ⟨k,rfl⟩:∃ k:Nat,a = k:=⟨a.toNat,by omega⟩
      rw [Int.toNat_natCast]
      by_cases h3:k + 4<=s.length
      · rw [if_neg (by omega)]
        have hn:=Qy0 s k
        (unfold Tryz.f216; refine rn (And.intro @h1 @h2) ?_)
        refine Qax (QBp s (by omega) k h3) rfl ?_
        by_cases h4:8392 < n4 s k
        · rw [if_pos h4]
          have h4':8392 < (n4 s k:Int):=by omega
          (refine rn @h4' ?_; try with_reducible exact ⟨⟩)
        · rw [if_neg h4]
          have h4':¬ 8392 < (n4 s k:Int):=by omega
          have hw:IntKind.u32.wrap (n4 s (k + 4 + n4 s k):Int) = (n4 s (k + 4 + n4 s k):Int):=by
            have:=Qy0 s (k + 4 + n4 s k)
            simp [IntKind.wrap,IntKind.signed,IntKind.bits]; omega
          by_cases h5:k + 4 + n4 s k + 4<=s.length
          · rw [if_neg (by omega)]
            have hg:=QBp s (by omega) (k + 4 + n4 s k) h5
            have e:(((k + 4 + n4 s k:Nat)):Int) = (k:Int) + 4 + (n4 s k:Int):=by omega
            rw [e] at hg
            have h5':¬ (s.length:Int) - (k:Int) < (n4 s k:Int) + 8:=by omega
            refine rn (And.intro @h4' @h5') ?_
            refine Qax hg rfl ?_
            have ht:((k:Int) + 4 + (n4 s k:Int)).toNat = k + 4 + n4 s k:=by omega
            have q1:(0:Int)<=(k:Int) + 4 + (n4 s k:Int):=by omega
            have q2:k<=k + 4 + n4 s k:=by omega
            have q3:k + 4 + n4 s k<=s.length:=by omega
            have hx:=QlC ((s.take (k + 4 + n4 s k)).drop k)
            refine rn (And.intro @ht (And.intro @q1 (And.intro @q2 (And.intro @q3 @hw)))) ?_
            refine Qax (QmR _ (by rw [List.length_drop,List.length_take]; omega)) rfl ?_
            by_cases h6:(n4 s (k + 4 + n4 s k):Int) = QlD ((s.take (k + 4 + n4 s k)).drop k)
            · rw [if_neg (by omega)]
              have q4:((k:Int) + 4).toNat = k + 4:=by omega
              have q5:k + 4<=k + 4 + n4 s k:=by omega
              have q6:(0:Int)<=(k:Int) + 4:=by omega
              have e8:(((k + 4 + n4 s k + 4:Nat)):Int) = (k:Int) + 8 + (n4 s k:Int):=by omega
              refine rn (And.intro @h6 (And.intro @ht (And.intro @q1 (And.intro @q2 (And.intro @q3 (And.intro @q4 (And.intro @q5 @q6))))))) ?_
              rw [e8]
            · rw [if_pos h6]
              (refine rn @h6 ?_; try with_reducible exact ⟨⟩)
          · rw [if_pos (by omega)]
            have h5':(s.length:Int) - (k:Int) < (n4 s k:Int) + 8:=by omega
            (refine rn (And.intro @h4' @h5') ?_; try with_reducible exact ⟨⟩)
      · rw [if_pos h3]
        (unfold Tryz.f216; refine rn (And.intro @h1 @h2) ?_)
        refine Qax (Qc9 s k 4 (by omega) (by omega) (by omega)) rfl ?_
        (refine rn trivial ?_; try with_reducible exact ⟨⟩)
section
structure RS (s:List UInt8) where
  at_:Int
  e:Int
  h:0<=at_/\at_<=s.length
def Ql6 (s:List UInt8) (a k:Nat):Int:=IntKind.i64.wrap (Qlf s a k)
def Qco (s:List UInt8) (r:RS s) (k:Nat):Int × RS s:=
  if r.e = 0 then if h:r.at_ + k<=s.length then (Ql6 s r.at_.toNat k,⟨r.at_ + k,0,by have:=r.h; omega⟩) else (0,⟨r.at_,5,r.h⟩) else (0,r)
def QeM (s:List UInt8) (r:RS s) (n:Int):List UInt8 × RS s:=
  if r.e = 0 then if h:0<=n/\r.at_ + n<=s.length then ((s.take (r.at_ + n).toNat).drop r.at_.toNat,⟨r.at_ + n,0,by have:=r.h; omega⟩) else ([],⟨r.at_,5,r.h⟩) else ([],r)
def Qo8 (s:List UInt8) (p:Int × RS s):Ce × RS s :=
  if p.2.e = 0/\¬ p.1 = 255 then
    if 12 < p.1 then (Ce0,⟨p.2.at_,4,p.2.h⟩) else (⟨true,(QeM s p.2 p.1).1⟩,(QeM s p.2 p.1).2)
  else (Ce0,p.2)
def Qe0 (s:List UInt8) (r:RS s):Ce × RS s:=Qo8 s (Qco s r 1)
theorem Ql5 (s:List UInt8) (a k:Nat) (h:k<=7):0<=Ql6 s a k/\Ql6 s a k < 2 ^ (8 * k):=by
  have h1:=Qez s a k (by omega)
  have h2:=QkB s a k
  have h3:(2:Nat) ^ (8 * k)<=2 ^ 56:=Nat.pow_le_pow_right (by omega) (by omega)
  have h4:((2:Int) ^ (8 * k)) = ((2 ^ (8 * k):Nat):Int):=by rw [Int.natCast_pow]; rfl
  unfold Ql6
  rw [h1,IntKind.wrap_i64,h4]
  omega
theorem QrO (s:List UInt8) (r:RS s) (k:Nat) (h:k<=7):0<=(Qco s r k).1:=by
  unfold Qco
  split
  · split
    · exact (Ql5 s _ k h).1
    · exact Int.le_refl _
  · exact Int.le_refl _
abbrev RC (B:Blk) (d:DV):DV->Qa->Prop:=fun r h'=>∃ B',h' = [B']/\B'.live = true/\DV.nums.go (fun _=>false) B'.cells = true/\r.nums (fun _=>false) = true/\(r = d/\B' = B)
def rdB (T:TypeId) (s:List UInt8) (r:RS s):Blk:=⟨T,true,[.pv (.str s),.int .i64 r.at_,.int .i64 r.e]⟩
attribute [go_sem] rdB
attribute [local go_sem] Ce.d
theorem QdZ {g:FuncId} {args:List DV} {hp:Qa} {k:Nat} {T:TypeId} {s:List UInt8} {r0 r1:RS s} {d:DV} {K:DV->Qa->Prop} (h:VCalls prog g (args.map (DV.ren fun _=>0)) [rdB T s r0] (RC (rdB T s r1) d)) (hk:hp[k]? = some (rdB T s r0))
    (ha:DV.nums.go (fun i=>i == k) args = true) (hK:K d (hp.set k (rdB T s r1))):VCalls prog g args hp K:=
  (VCalls.ptr1 (R:=fun r B'=>r = d/\B' = rdB T s r1) hk rfl rfl h ha).mono fun r h' ⟨B',e1,_,_,e2,e3⟩=>by subst e1 e2 e3; exact hK
theorem QbL (s:List UInt8) (hs:s.length<=100000000) (r:RS s) (k:Nat) (hk:1<=k/\k<=8):VCalls prog 247 [.ptr 0 0,.int .i64 k] [rdB 340 s r] (RC (rdB 340 s (Qco s r k).2) (.int .i64 (Qco s r k).1)):=by
  refine dd Tryz.func247 ?_
  obtain ⟨a,e,ha⟩:=r
  obtain ⟨n,rfl⟩:∃ n:Nat,a = n:=⟨a.toNat,by omega⟩
  unfold Qco
  dsimp only
  by_cases he:e = 0
  · subst he
    rw [if_pos rfl]
    by_cases h:(n:Int) + k<=s.length
    · rw [dif_pos h]
      have hg:=QhY s (by omega) n k hk (by omega)
      (unfold Tryz.f247; refine rn trivial ?_)
      refine Qb (id:=3) [0,1,2,3,4,5,6,7,8] [⟨[],[],9,[0,1,2,4,5,6],[10,11,12]⟩,⟨[],[],13,[12],[]⟩,⟨[],[],14,[],[]⟩] (by kernel_rfl) (by kernel_rfl) ?_
      refine rn trivial ?_
      refine Qax hg rfl ?_
      refine rn trivial ?_
      exact ⟨_,rfl,rfl,rfl,rfl,rfl,rfl⟩
    · rw [dif_neg h]
      have hg:=Qc9 s n k (by omega) (by omega) h
      (unfold Tryz.f247; refine rn trivial ?_)
      refine Qb (id:=3) [0,1,2,3,4,5,6,7,8] [⟨[],[],9,[0,1,2,4,5,6],[10,11,12]⟩,⟨[],[],13,[12],[]⟩,⟨[],[],14,[],[]⟩] (by kernel_rfl) (by kernel_rfl) ?_
      refine rn trivial ?_
      refine Qax hg rfl ?_
      refine rn trivial ?_
      exact ⟨_,rfl,rfl,rfl,rfl,rfl,rfl⟩
  · rw [if_neg he]
    (unfold Tryz.f247; refine rn @he ?_)
    exact ⟨_,rfl,rfl,rfl,rfl,rfl,rfl⟩
theorem Qnm (s:List UInt8) (hs:s.length<=100000000) (r:RS s) (n:Int) (hn:0<=n/\n<=4294967296):VCalls prog 249 [.ptr 0 0,.int .i64 n] [rdB 340 s r] (RC (rdB 340 s (QeM s r n).2) (.pv (.str (QeM s r n).1))):=by
  refine dd Tryz.func249 ?_
  obtain ⟨a,e,ha⟩:=r
  obtain ⟨n,rfl⟩:∃ m:Nat,n = m:=⟨n.toNat,by omega⟩
  obtain ⟨a,rfl⟩:∃ m:Nat,a = m:=⟨a.toNat,by omega⟩
  unfold QeM
  dsimp only
  by_cases he:e = 0
  · subst he
    rw [if_pos rfl]
    by_cases h:0<=(n:Int)/\(a:Int) + n<=s.length
    · rw [dif_pos h]
      have q1:¬ (s.length:Int) - a < n:=by omega
      have q2:¬ (s.length:Int) - a < n:=by omega
      have q3:¬ (s.length:Int) - (a:Int) < (n:Int):=by omega
      have q4:((a:Int) + n).toNat = a + n:=by omega
      have q5:(a:Int) + n - n = a:=by omega
      have q6:a<=a + n:=by omega
      have q7:a + n<=s.length:=by omega
      have q8:0<=(a:Int) + n:=by omega
      have q9:(a:Int).toNat = a:=by omega
      have q10:¬ (n:Int) > (s.length:Int) - a:=by omega
      (unfold Tryz.f249; refine rn @q3 ?_)
      refine QdB (by kernel_rfl) (by kernel_rfl) ?_
      refine rn (And.intro @q3 @q10) ?_
      refine QdB (by kernel_rfl) (by kernel_rfl) ?_
      refine rn (And.intro @q4 (And.intro @q5 (And.intro @q6 (And.intro @q7 @q8)))) ?_
      exact ⟨_,rfl,rfl,rfl,rfl,rfl,rfl⟩
    · rw [dif_neg h]
      have q3:(s.length:Int) - (a:Int) < (n:Int):=by omega
      (unfold Tryz.f249; refine rn @q3 ?_)
      refine QdB (by kernel_rfl) (by kernel_rfl) ?_
      refine rn @q3 ?_
      exact ⟨_,rfl,rfl,rfl,rfl,rfl,rfl⟩
  · rw [if_neg he]
    (unfold Tryz.f249; refine rn @he ?_)
    exact ⟨_,rfl,rfl,rfl,rfl,rfl,rfl⟩
theorem QkF (s:List UInt8) (hs:s.length<=100000000) (r:RS s):VCalls prog 248 [.ptr 0 0] [rdB 340 s r] (RC (rdB 340 s (Qe0 s r).2) (.agg (Qe0 s r).1.d)):=by
  refine dd Tryz.func248 ?_
  have hn:=QbL s hs r 1 (by omega)
  have h0:=QrO s r 1 (by omega)
  have h1:(Qco s r 1).1<=255:=by
    unfold Qco
    split
    · split
      · have:=(Ql5 s r.at_.toNat 1 (by omega)).2; dsimp only; omega
      · simp
    · simp
  unfold Qe0
  generalize Qco s r 1 = p at hn h0 h1 |-
  obtain ⟨n,r1⟩:=p
  unfold Qo8
  dsimp only at hn h0 h1 |-
  (unfold Tryz.f248; refine rn trivial ?_)
  refine QdZ (k:=0) hn rfl rfl ?_
  by_cases he:r1.e = 0
  · by_cases h2:n = 255
    · subst h2
      rw [if_neg (by simp)]
      refine rn @he ?_
      exact ⟨_,rfl,rfl,rfl,rfl,rfl,by rw [<- he]⟩
    · rw [if_pos ⟨he,h2⟩]
      by_cases h3:12 < n
      · rw [if_pos h3]
        refine rn (And.intro @he (And.intro @h2 @h3)) ?_
        exact ⟨_,rfl,rfl,rfl,rfl,rfl,rfl⟩
      · rw [if_neg h3]
        have ht:=Qnm s hs r1 n (by omega)
        refine rn (And.intro @he (And.intro @h2 @h3)) ?_
        have e9:(⟨340,true,[.pv (.str s),.int .i64 r1.at_,.int .i64 0]⟩:Blk) = rdB 340 s r1:=by rw [rdB,he]
        rw [e9]
        refine QdZ (k:=0) ht rfl rfl ?_
        refine rn trivial ?_
        exact ⟨_,rfl,rfl,rfl,rfl,rfl,rfl⟩
  · rw [if_neg (fun h=>he h.1)]
    refine rn @he ?_
    exact ⟨_,rfl,rfl,rfl,rfl,rfl,rfl⟩
end
section
attribute [local go_sem] Ce.d
def rs0 (s:List UInt8):RS s:=⟨0,0,by omega⟩
theorem Qvl (s:List UInt8) (r:RS s):(Qco s r 4).1<=4294967296:=by
  unfold Qco
  split
  · split
    · have:=(Ql5 s r.at_.toNat 4 (by omega)).2; dsimp only; omega
    · simp
  · simp
def QsP (s:List UInt8):E × RS s:=
  let p1:=Qco s (rs0 s) 8
  let p2:=Qco s p1.2 1
  let p3:=Qco s p2.2 4
  let p4:=Qco s p3.2 8
  let p5:=Qco s p4.2 8
  let p6:=Qco s p5.2 8
  let p7:=Qco s p6.2 4
  let p8:=Qco s p7.2 1
  let c1:=Qe0 s p8.2
  let c2:=Qe0 s c1.2
  let p9:=Qco s c2.2 4
  let t:=QeM s p9.2 p9.1
  (⟨p1.1,p2.1,p3.1,p4.1,p5.1,p6.1,⟨p7.1,p8.1,c1.1,c2.1⟩,t.1⟩,t.2)
def Qps (s:List UInt8):E × Int:=
  if (QsP s).2.e = 0 then if (QsP s).2.at_ = s.length then if (QsP s).1.okB = true then ((QsP s).1,0) else (E0,12) else (E0,4) else (E0,(QsP s).2.e)
theorem QoB (s:List UInt8) (hs:s.length<=100000000):VCalls prog 218 [.pv (.str s)] [] (Ret (.tup [.agg (Qps s).1.d,.int .i64 (Qps s).2])):=by
  have hp1:=QbL s hs (rs0 s) 8 (by omega)
  generalize hqp1:Qco s (rs0 s) 8 = p1 at hp1
  have hp2:=QbL s hs p1.2 1 (by omega)
  generalize hqp2:Qco s p1.2 1 = p2 at hp2
  have hp3:=QbL s hs p2.2 4 (by omega)
  generalize hqp3:Qco s p2.2 4 = p3 at hp3
  have hp4:=QbL s hs p3.2 8 (by omega)
  generalize hqp4:Qco s p3.2 8 = p4 at hp4
  have hp5:=QbL s hs p4.2 8 (by omega)
  generalize hqp5:Qco s p4.2 8 = p5 at hp5
  have hp6:=QbL s hs p5.2 8 (by omega)
  generalize hqp6:Qco s p5.2 8 = p6 at hp6
  have hp7:=QbL s hs p6.2 4 (by omega)
  generalize hqp7:Qco s p6.2 4 = p7 at hp7
  have hp8:=QbL s hs p7.2 1 (by omega)
  generalize hqp8:Qco s p7.2 1 = p8 at hp8
  have hc1:=QkF s hs p8.2
  generalize hqc1:Qe0 s p8.2  = c1 at hc1
  have hc2:=QkF s hs c1.2
  generalize hqc2:Qe0 s c1.2  = c2 at hc2
  have hp9:=QbL s hs c2.2 4 (by omega)
  generalize hqp9:Qco s c2.2 4 = p9 at hp9
  have ht:=Qnm s hs p9.2 p9.1 ⟨by rw [<- hqp9]; exact QrO s _ 4 (by omega),by rw [<- hqp9]; exact Qvl s _⟩
  generalize hqt:QeM s p9.2 p9.1 = t at ht
  have hd:QsP s = (⟨p1.1,p2.1,p3.1,p4.1,p5.1,p6.1,⟨p7.1,p8.1,c1.1,c2.1⟩,t.1⟩,t.2):=by
    unfold QsP
    simp only [hqp1,hqp2,hqp3,hqp4,hqp5,hqp6,hqp7,hqp8,hqc1,hqc2,hqp9,hqt]
  have hv:=Qca ⟨p1.1,p2.1,p3.1,p4.1,p5.1,p6.1,⟨p7.1,p8.1,c1.1,c2.1⟩,t.1⟩
  unfold Qps
  rw [hd]
  clear hqt hqp9 hqc2 hqc1 hqp8 hqp7 hqp6 hqp5 hqp4 hqp3 hqp2 hqp1 hd
  obtain ⟨n1,r1⟩:=p1
  obtain ⟨n2,r2⟩:=p2
  obtain ⟨n3,r3⟩:=p3
  obtain ⟨n4,r4⟩:=p4
  obtain ⟨n5,r5⟩:=p5
  obtain ⟨n6,r6⟩:=p6
  obtain ⟨n7,r7⟩:=p7
  obtain ⟨n8,r8⟩:=p8
  obtain ⟨x1,r9⟩:=c1
  obtain ⟨x2,r10⟩:=c2
  obtain ⟨n9,r11⟩:=p9
  obtain ⟨tt,r12⟩:=t
  dsimp only at *
  refine dd Tryz.func218 ?_
  (unfold Tryz.f218; refine rn trivial ?_)
  have e0:(⟨340,true,[.pv (.str s),.int .i64 0,.int .i64 0]⟩:Blk) = rdB 340 s (rs0 s):=rfl
  rw [e0]
  refine QdZ (k:=1) hp1 rfl rfl ?_
  refine rn trivial ?_
  refine QdZ (k:=1) hp2 rfl rfl ?_
  refine rn trivial ?_
  refine QdZ (k:=1) hp3 rfl rfl ?_
  refine rn trivial ?_
  refine QdZ (k:=1) hp4 rfl rfl ?_
  refine rn trivial ?_
  refine QdZ (k:=1) hp5 rfl rfl ?_
  refine rn trivial ?_
  refine QdZ (k:=1) hp6 rfl rfl ?_
  refine rn trivial ?_
  refine QdZ (k:=1) hp7 rfl rfl ?_
  refine rn trivial ?_
  refine QdZ (k:=1) hp8 rfl rfl ?_
  refine rn trivial ?_
  refine QdZ (k:=1) hc1 rfl rfl ?_
  refine rn trivial ?_
  refine QdZ (k:=1) hc2 rfl rfl ?_
  refine rn trivial ?_
  refine QdZ (k:=1) hp9 rfl rfl ?_
  refine rn trivial ?_
  refine QdZ (k:=1) ht rfl rfl ?_
  refine rn trivial ?_
  by_cases he:r12.e = 0
  · rw [if_pos he]
    by_cases ha:r12.at_ = s.length
    · rw [if_pos ha]
      refine rn (And.intro @he @ha) ?_
      by_cases hb:E.okB ⟨n1,n2,n3,n4,n5,n6,⟨n7,n8,x1,x2⟩,tt⟩ = true
      · rw [if_pos hb]
        rw [hb] at hv
        refine Qax hv rfl ?_
        refine rn trivial ?_
        first | exact ⟨⟩ | rfl
      · rw [if_neg hb]
        have hb:E.okB ⟨n1,n2,n3,n4,n5,n6,⟨n7,n8,x1,x2⟩,tt⟩ = false:=by simpa using hb
        rw [hb] at hv
        refine Qax hv rfl ?_
        refine rn trivial ?_
        rfl
    · rw [if_neg ha]
      refine rn (And.intro @he @ha) ?_
      rfl
  · rw [if_neg he]
    refine rn @he ?_
    refine QdB (by kernel_rfl) (by kernel_rfl) ?_
    refine rn trivial ?_
    rfl
end
def Qgg (s:List UInt8) (a l:Int):Option (E × Int):=if (unf s a).2.2 = 0/\(Qps (unf s a).1).2 = 0/\(Qps (unf s a).1).1.lsn = l then some ((Qps (unf s a).1).1,(unf s a).2.1) else none
def opn (s:List UInt8):Nat->Int->Int->List E
  | 0,_,_=>[]
  | n + 1,a,l=>match Qgg s a l with
    | some (x,b)=>x :: opn s n b (l + 1)
    | none=>[]
def QAx (s:List UInt8):List E:=opn s 4096 (unf s 0).2.1 (Ql6 (unf s 0).1 4 8)
def hdO (s:List UInt8):Prop:=(unf s 0).2.2 = 0/\(unf s 0).1.length = 12/\(unf s 0).1.take 4 = [80,77,76,71]/\1<=Ql6 (unf s 0).1 4 8/\Ql6 (unf s 0).1 4 8<=1099511627776
instance (s:List UInt8):Decidable (hdO s):=by unfold hdO; infer_instance
def QbH (s:List UInt8):Lg × Int:=if hdO s then (⟨Ql6 (unf s 0).1 4 8,QAx s,Ql6 (unf s 0).1 4 8 + (QAx s).length - 1⟩,0) else (Lg0,4)
theorem QrL (s:List UInt8):∀ n a l,(opn s n a l).length<=n
  | 0,_,_=>Nat.le_refl _
  | n + 1,a,l=>by
    unfold opn
    split
    · rw [List.length_cons]; have:=QrL s n; exact Nat.succ_le_succ (this _ _)
    · exact Nat.zero_le _
theorem Qne {s:List UInt8} {a l:Int} (n:Nat) (h:Qgg s a l = none):opn s n a l = []:=by
  cases n
  · rfl
  · unfold opn; rw [h]
theorem Qqx {s:List UInt8} {a l:Int} (h:(unf s a).2.2 ≠ 0):Qgg s a l = none:=if_neg fun x=>h x.1
structure Op (s:List UInt8) (f a0:Int) where
  l:List E
  a:Int
  hl:l.length<=4096
  h:l ++ opn s (4096 - l.length) a (f + l.length) = opn s 4096 a0 f
def Op.start (s:List UInt8) (f a0:Int):Op s f a0:=⟨[],a0,Nat.zero_le _,by simp⟩
theorem Qvf {s:List UInt8} {n:Nat} {a l b:Int} {x:E} (hn:n < 4096) (h:Qgg s a l = some (x,b)):opn s (4096 - n) a l = x :: opn s (4096 - (n + 1)) b (l + 1):=by
  obtain ⟨m,hm⟩:∃ m,4096 - n = m + 1:=⟨4095 - n,by omega⟩
  rw [hm,show 4096 - (n + 1) = m by omega]
  conv=>lhs; unfold opn
  rw [h]
def Op.next {s:List UInt8} {f a0:Int} (o:Op s f a0) (hn:o.l.length < 4096) {x:E} {b:Int} (h:Qgg s o.a (f + o.l.length) = some (x,b)):Op s f a0:=⟨o.l ++ [x],b,by simp; omega,by
  have:=o.h
  rw [Qvf hn h] at this
  rw [<- this,List.length_append,List.length_singleton,List.append_assoc,List.singleton_append]
  congr 3
  omega⟩
theorem Op.stop {s:List UInt8} {f a0:Int} (o:Op s f a0) (h:o.l.length < 4096->Qgg s o.a (f + o.l.length) = none):opn s 4096 a0 f = o.l:=by
  rw [<- o.h]
  by_cases hc:o.l.length < 4096
  · rw [Qne _ (h hc),List.append_nil]
  · have:=o.hl
    rw [show 4096 - o.l.length = 0 by omega]; exact List.append_nil _
theorem Qo9 {c:Ce} (h:c.no = true):c.data.length<=12:=by
  unfold Ce.no at h
  simp only [Bool.and_eq_true,beq_iff_eq] at h
  rw [h.2]; exact Nat.zero_le _
theorem Qwd {c:Ce} (h:c.okB = true):c.data.length<=12:=by
  unfold Ce.okB at h
  simp only [Bool.and_eq_true,decide_eq_true_eq] at h
  exact h.1
theorem Qek {e:E} (h:e.okB = true):e.c.b.data.length<=12/\e.c.a.data.length<=12/\e.blob.length<=8192:=by
  unfold E.okB at h
  simp only [Bool.and_eq_true] at h
  have h2:=h.2
  clear h
  unfold E.kindB at h2
  have nb:∀ {l:List UInt8},l == []->l.length<=8192:=fun h=>by rw [beq_iff_eq] at h; rw [h]; exact Nat.zero_le _
  split at h2
  · simp only [Bool.and_eq_true,Ch.okB] at h2
    exact ⟨Qwd h2.2.1.2,Qwd h2.2.2,nb h2.1.2⟩
  split at h2
  · simp only [Bool.and_eq_true,Ch.okB] at h2
    exact ⟨Qwd h2.2.1.2,Qwd h2.2.2,nb h2.1.1.1.2⟩
  split at h2
  · simp only [Bool.and_eq_true,Ch.no] at h2
    exact ⟨Qo9 h2.2.1.2,Qo9 h2.2.2,nb h2.1.2⟩
  split at h2
  · simp only [Bool.and_eq_true,Ch.no,decide_eq_true_eq] at h2
    exact ⟨Qo9 h2.2.1.2,Qo9 h2.2.2,h2.1.2⟩
  split at h2
  · simp only [Bool.and_eq_true,Ch.ix] at h2
    exact ⟨Qo9 h2.2.1.1.1.2,Qo9 h2.2.1.1.2,nb h2.1.2⟩
  · cases h2
def Qaf (s:List UInt8) (c:Ce):List UInt8:=if c.set = true then Qan s c.data.length 1 ++ c.data else Qan s 255 1
theorem Qbp (s:List UInt8) (c:Ce):(Qaf s c).length<=s.length + 1 + c.data.length:=by
  unfold Qaf; split
  · rw [List.length_append,Qo]; exact Nat.le_refl _
  · rw [Qo]; omega
theorem Qkb (s:List UInt8) (hs:s.length<=100000000) (c:Ce) (hc:c.data.length<=1000000):VCalls prog 246 [.pv (.str s),.agg c.d] [] (Ret (.pv (.str (Qaf s c)))):=by
  refine dd Tryz.func246 ?_
  have c1:=QbT s (by omega) 255 1 (by omega) (by omega)
  have c2:=QbT s (by omega) c.data.length 1 (by omega) (by omega)
  have e:Qaf s c = if c.set = true then Qan s c.data.length 1 ++ c.data else Qan s 255 1:=rfl
  have hadd:=QcD (a:=Qan s c.data.length 1) (b:=c.data) (by rw [Qo]; omega)
  generalize Qaf s c = r at *
  (unfold Tryz.f246; refine rn trivial ?_)
  have F:=@hadd
  refine rn F ?_
  repeat' (first
    | with_reducible exact ⟨⟩
    | (refine sB F ?_ ?_<;>intro hZ)
    | refine vp F (c1) ?_
    | refine vp F (c2) ?_
    | (refine Qb (id:=3) [0,1,2,3,5,6] [⟨[],[],4,[1,2,5,6],[7]⟩,⟨[],[],8,[],[]⟩] (by kernel_rfl) (by kernel_rfl) ?_; refine rn F ?_))
  all_goals first | (first | (rw [e]; simp (disch:=first | assumption | omega | exact rfl | exact nf (by assumption) | exact nt (by assumption) | decide | fail) only [if_pos,if_neg]; first | done | rfl) | (rw [e]; simp (disch:=first | assumption | omega | exact rfl | exact nf (by assumption) | exact nt (by assumption) | decide | (simp_all; done) | fail) only [if_pos,if_neg]; first | done | rfl)) | skip
def QaM (e:E):List UInt8:=Qan (Qan (Qan (Qan (Qan (Qan (Qan (Qan [] e.lsn 8) e.kind 1) e.tx 4) e.ptx 8) e.ppg 8) e.ref 8) e.c.pg 4) e.c.sl 1
theorem Qdi (e:E):(QaM e).length = 42:=by unfold QaM; simp only [Qo,List.length_nil]
def QkV (e:E):List UInt8:=Qan (Qaf (Qaf (QaM e) e.c.b) e.c.a) e.blob.length 4 ++ e.blob
def QhE (e:E):List UInt8 × Int:=if e.okB = true then (QkV e,0) else ([],12)
theorem QyC (e:E):VCalls prog 215 [.agg e.d] [] (Ret (.tup [.pv (.str (QhE e).1),.int .i64 (QhE e).2])):=by
  refine dd Tryz.func215 ?_
  have c1:=Qca e
  unfold QhE
  cases hv:e.okB
  · rw [hv] at c1
    (unfold Tryz.f215; refine rn trivial ?_)
    refine rn F ?_
    repeat' (first
      | with_reducible exact ⟨⟩
      | refine vp F (c1) ?_)
    all_goals rfl
  rw [hv] at c1
  obtain ⟨l1,l2,l3⟩:=Qek hv
  have n1:=Qbp (QaM e) e.c.b
  have n2:=Qbp (Qaf (QaM e) e.c.b) e.c.a
  rw [Qdi] at n1
  have p9:=Qkb (QaM e) (by rw [Qdi]; omega) e.c.b (by omega)
  have p10:=Qkb (Qaf (QaM e) e.c.b) (by omega) e.c.a (by omega)
  have p11:=QbT (Qaf (Qaf (QaM e) e.c.b) e.c.a) (by omega) e.blob.length 4 (by omega) (by omega)
  have hadd:=QcD (a:=Qan (Qaf (Qaf (QaM e) e.c.b) e.c.a) e.blob.length 4) (b:=e.blob) (by rw [Qo]; omega)
  have hh:QaM e = Qan (Qan (Qan (Qan (Qan (Qan (Qan (Qan [] e.lsn 8) e.kind 1) e.tx 4) e.ptx 8) e.ppg 8) e.ref 8) e.c.pg 4) e.c.sl 1:=rfl
  have q:=fun (s:List UInt8) (hs:s.length<=1000) (n:Int) (k:Nat) (h1:1<=k) (h8:k<=8)=>QbT s (by omega) n k h1 h8
  (unfold Tryz.f215; refine rn trivial ?_)
  have F:=@hh.symm
  refine rn F ?_
  repeat' (first
    | with_reducible exact ⟨⟩
    | refine vp F (c1) ?_
    | refine vp F (q _ (by simp [Qo]) _ 8 (by omega) (by omega)) ?_
    | refine vp F (q _ (by simp [Qo]) _ 1 (by omega) (by omega)) ?_
    | refine vp F (q _ (by simp [Qo]) _ 4 (by omega) (by omega)) ?_
    | (refine Qb (id:=11) [0,1,2,3,5,6,7] [⟨[],[],4,[1,2,5,6,7],[]⟩,⟨[],[],8,[0,1,2,3,5,6],[]⟩,⟨[],[],9,[],[]⟩] (by kernel_rfl) (by kernel_rfl) ?_; refine rn F ?_))
  have F:=@hadd
  refine rn F ?_
  repeat' (first
    | with_reducible exact ⟨⟩
    | refine vp F (p9) ?_
    | refine vp F (p10) ?_
    | refine vp F (p11) ?_
    | (refine Qb (id:=12) [0,1,2,3,5,6] [⟨[],[],4,[1,2,5,6],[7]⟩,⟨[],[],8,[],[]⟩,⟨[],[],9,[],[]⟩] (by kernel_rfl) (by kernel_rfl) ?_; refine rn F ?_))
  all_goals rfl
theorem QkU (e:E):(QhE e).1.length<=9000:=by
  unfold QhE
  split
  · rename_i hv
    obtain ⟨l1,l2,l3⟩:=Qek hv
    have n1:=Qbp (QaM e) e.c.b
    have n2:=Qbp (Qaf (QaM e) e.c.b) e.c.a
    rw [Qdi] at n1
    unfold QkV
    dsimp only
    rw [List.length_append,Qo]
    omega
  · exact Nat.zero_le _
theorem Qq7 (e:E):VCalls prog 173 [.agg e.d] [] (Ret (.pv (.str (frm (QhE e).1)))):=by
  refine dd Tryz.func173 ?_
  have c1:=QyC e
  have hl:=QkU e
  generalize QhE e = r at *
  have c2:=Qm0 r.1 (by omega)
  (unfold Tryz.f173; refine rn trivial ?_)
  refine rn F ?_
  repeat' (first
    | with_reducible exact ⟨⟩
    | refine vp F (c1) ?_
    | refine vp F (c2) ?_)
  all_goals rfl
def QcO (n:Int):List UInt8:=frm (Qan [80,77,76,71] n 8)
theorem QuS (n:Int):VCalls prog 172 [.int .i64 n] [] (Ret (.pv (.str (QcO n)))):=by
  refine dd Tryz.func172 ?_
  have c1:=QbT [80,77,76,71] (by simp) n 8 (by omega) (by omega)
  have c2:=Qm0 (Qan [80,77,76,71] n 8) (by rw [Qo]; simp)
  (unfold Tryz.f172; refine rn trivial ?_)
  refine rn F ?_
  repeat' (first
    | with_reducible exact ⟨⟩
    | refine vp F (c1) ?_
    | refine vp F (c2) ?_)
  all_goals rfl
def frE (e:E):List UInt8:=frm (QhE e).1
theorem Qsz (e:E):(frE e).length<=9008:=by
  have:=QkU e
  unfold frE frm
  split
  · rw [Qo,List.length_append,Qo,List.length_nil]; omega
  · exact Nat.zero_le _
def Qpr (l:List E) (d:Int):List UInt8:=(l.filter fun e=>decide (e.lsn<=d)).flatMap frE
def Qra (l:List E) (d:Int):List UInt8:=(l.filter fun e=>!decide (e.lsn<=d)).flatMap frE
theorem QsM (l:List E) (d:Int) (i:Nat) (h:i < l.length):Qpr (l.take (i + 1)) d = if (l.getD i E0).lsn<=d then Qpr (l.take i) d ++ frE (l.getD i E0) else Qpr (l.take i) d:=by
  unfold Qpr
  rw [List.take_succ_eq_append_getElem h,List.filter_append,List.flatMap_append,Qk l i h]
  split<;>rename_i hx<;>simp [hx]
theorem Qq9 (l:List E) (d:Int) (i:Nat) (h:i < l.length):Qra (l.take (i + 1)) d = if (l.getD i E0).lsn<=d then Qra (l.take i) d else Qra (l.take i) d ++ frE (l.getD i E0):=by
  unfold Qra
  rw [List.take_succ_eq_append_getElem h,List.filter_append,List.flatMap_append,Qk l i h]
  split<;>rename_i hx<;>simp [hx]
theorem Qw4 (l:List E):(l.flatMap frE).length<=9008 * l.length:=by
  induction l with
  | nil=>simp
  | cons a r ih =>
    have:=Qsz a
    rw [List.flatMap_cons,List.length_append,List.length_cons]; omega
theorem Qnv (l:List E) (d:Int):(Qpr l d).length<=9008 * l.length:=
  Nat.le_trans (Qw4 _) (Nat.mul_le_mul_left _ (List.length_filter_le _ _))
theorem Qm4 (l:List E) (d:Int):(Qra l d).length<=9008 * l.length:=
  Nat.le_trans (Qw4 _) (Nat.mul_le_mul_left _ (List.length_filter_le _ _))
theorem QkJ (n:Int):(QcO n).length<=9008:=by
  unfold QcO frm
  split
  · rw [Qo,List.length_append,Qo,Qo,List.length_nil]; simp
  · exact Nat.zero_le _
def QcT (x:Lg) (torn:Int):List UInt8:=if lgB x = true then QcO x.f ++ Qpr x.es x.d ++ (Qra x.es x.d).take torn.toNat else []
theorem Qm5 (x:Lg) (hx:x.es.length<=9223372036854775807) (torn:Int):VCalls prog 131 [.agg x.c,.int .i64 torn] [] (Ret (.pv (.str (QcT x torn)))):=by
  refine dd Tryz.func131 ?_
  have c1:=QV x hx
  have c2:=QuS x.f
  have hh:=QkJ x.f
  unfold QcT
  (unfold Tryz.f131; refine rn trivial ?_)
  cases hv:lgB x
  · rw [hv] at c1
    refine rn F ?_
    repeat' (first
      | with_reducible exact ⟨⟩
      | refine vp F (c1) ?_)
    all_goals rfl
  rw [hv] at c1
  have hd:=QB hv
  simp only [Lg.hd] at hd
  refine rn F ?_
  repeat' (first
    | with_reducible exact ⟨⟩
    | refine vp F (c1) ?_
    | refine vp F (c2) ?_)
  generalize QcO x.f = H at *
  refine Qg (fun s:To x.es.length=>⟨55,0,[(7,.int .i64 s.i),(6,.pv (.str (Qra (x.es.take s.i) x.d))),(5,.pv (.str (H ++ Qpr (x.es.take s.i) x.d))),(2,.ptr 0 0),(1,.int .i64 torn)],[⟨25,true,x.c⟩]⟩) (fun s=>x.es.length - s.i) ⟨0,Nat.zero_le _⟩ (by simp only [List.take_zero]; rw [show Qpr [] x.d = [] from rfl,show Qra [] x.d = [] from rfl,List.append_nil]; exact (gc [0])) ?_
  rintro ⟨i,hi⟩
  dsimp only
  have hg:=fun h:i < x.es.length=>QeV x.es i h
  have c3:=Qq7 (x.es.getD i E0)
  have hf:=Qsz (x.es.getD i E0)
  have hs1:=QsM x.es x.d i
  have hs2:=Qq9 x.es x.d i
  have l1:=Qnv (x.es.take i) x.d
  have l2:=Qm4 (x.es.take i) x.d
  rw [List.length_take] at l1 l2
  have hfr:frm (QhE (x.es.getD i E0)).1 = frE (x.es.getD i E0):=rfl
  rw [hfr] at c3
  have a1:=QcD (a:=H ++ Qpr (x.es.take i) x.d) (b:=frE (x.es.getD i E0)) (by rw [List.length_append]; omega)
  have a2:=QcD (a:=Qra (x.es.take i) x.d) (b:=frE (x.es.getD i E0)) (by omega)
  have hH:(H ++ Qpr (x.es.take i) x.d).length = H.length + (Qpr (x.es.take i) x.d).length:=List.length_append
  have F:=(And.intro @hg (And.intro @a1 @a2))
  refine rn F ?_
  repeat' (first
    | with_reducible exact ⟨⟩
    | (refine sB F ?_ ?_<;>intro hZ)
    | refine vp F (c3) ?_
    | (refine Qb (id:=7) [0,1,2,3,4,5,6,7,8] [] (by kernel_rfl) (by kernel_rfl) ?_; refine rn F ?_))
  · have d1:=hs1 (by omega)
    have d2:=hs2 (by omega)
    rw [if_pos (by first | assumption | omega)] at d1 d2
    refine ⟨⟨i + 1,by omega⟩,by dsimp only; omega,?_⟩
    dsimp only
    rw [d1,d2,<- List.append_assoc]
    exact (gc [0])
  · have d1:=hs1 (by omega)
    have d2:=hs2 (by omega)
    rw [if_neg (by first | assumption | omega)] at d1 d2
    refine ⟨⟨i + 1,by omega⟩,by dsimp only; omega,?_⟩
    dsimp only
    rw [d1,d2]
    exact (gc [0])
  · rw [List.take_of_length_le (show x.es.length<=i by omega)]
    congr 3
    generalize Qra x.es x.d = R
    by_cases h0:0 > torn
    · rw [if_pos h0]
      rw [if_neg (by omega),show torn.toNat = (0:Int).toNat by omega]
    · rw [if_neg h0]
      by_cases h1:(R.length:Int) < torn
      · rw [if_pos h1,Int.toNat_natCast,List.take_length,List.take_of_length_le (by omega)]
      · rw [if_neg h1]
def QqA (a b:List E) (i:Nat):Bool:=eqE (a.getD i E0) (b.getD i E0)
def Qun (a b:List E):Bool:=decide (a.length = b.length) && (List.range a.length).all (QqA a b)
theorem QvX (x:E):eqE x x = true:=by simp [eqE]
theorem QhU (a:List E):Qun a a = true:=by
  unfold Qun
  rw [decide_eq_true rfl,Bool.true_and,List.all_eq_true]
  exact fun i _=>QvX _
theorem QmS (a b:List E) (ha:a.length<=1000000):VCalls prog 19 [.pv (.sl (fz encE a)),.pv (.sl (fz encE b))] [] (Ret (.bool (Qun a b))):=by
  refine dd Tryz.func19 ?_
  have hB:Qun a b = (decide (a.length = b.length) && (List.range a.length).all (QqA a b)):=rfl
  (unfold Tryz.f19; refine rn trivial ?_)
  by_cases h:a.length = b.length
  rotate_left
  · have h':¬ (a.length:Int) = b.length:=by omega
    have F:=@h'
    refine rn F ?_
    rw [hB,decide_eq_false h]; rfl
  have h':(a.length:Int) = b.length:=by omega
  have F:=@h'
  refine rn F ?_
  refine Qg (fun s:Okay a.length (QqA a b)=>⟨26,0,[(5,.int .i64 s.i),(1,.pv (.sl (fz encE b))),(0,.pv (.sl (fz encE a)))],[]⟩) (fun s=>a.length - s.i) (Okay.start _ _) (gc []) ?_
  intro s
  have hsi:=s.hi
  have hg:=fun h:s.i < a.length=>QeV a s.i h
  have hg2:=fun h:s.i < b.length=>QeV b s.i h
  have F:=(And.intro @hg @hg2)
  refine rn F ?_
  repeat' (first
    | with_reducible exact ⟨⟩
    | (refine sB F ?_ ?_<;>intro hZ)
    | (refine Qb (id:=6) [0,1,2,3,4,5,6,7,8] [] (by kernel_rfl) (by kernel_rfl) ?_; refine rn F ?_))
  · rw [hB,Qcj (i:=s.i) (by omega) (Bool.eq_false_iff.2 fun hq=>by
      unfold QqA eqE at hq
      simp only [Bool.and_eq_true,beq_iff_eq] at hq
      obtain ⟨q1,q2,q3,q4,q5,q6,q7,q8,q9,q10,q11,q12,q13⟩:=hq
      exact absurd (hZ q1 q2 q3 q4 q5 q6 q7 q8 q9 q10 q11 q12 q13) (by simp)),Bool.and_false]
  · exact ⟨s.next (by omega) (by unfold QqA eqE; simp_all),by show a.length - (s.i + 1) < a.length - s.i; omega,(gc [])⟩
  · rw [hB,s.all (by omega),decide_eq_true h]; rfl
section
attribute [local go_sem] cb cc
theorem QCg (b:Int) (hb:0<=b/\b<=255):∃ y:UInt8,b = (y.toNat:Int):=⟨UInt8.ofNat b.toNat,by simp only [UInt8.toNat_ofNat']; omega⟩
theorem QrT {α:Type} {n:Nat} {A B:α} (hn:n<=1000000000):(if 0<=(n:Int)/\((1:Nat):Int) * n<=281474976710656/\(n:Int)<=9223372036854775807 then A else B) = A:=
  if_pos ⟨by omega,by omega,by omega⟩
abbrev Dx (n:Nat):DV->Prop:=fun r=>∃ t:List UInt8,r = .pv (.str t)/\t.length<=n
structure DSt (n:Nat) where
  c:C
  l:List UInt8
  hl:l.length<=n
theorem QsR (c:C):VCalls prog 57 [.ptr 0 0] [cb c] (CX (Dx 13)):=by
  refine dd Tryz.func57 ?_
  (unfold Tryz.f57; refine rn trivial ?_)
  refine QH (k:=0) (c:=c) (QP c 5 (by omega) (by omega)) rfl rfl ?_
  rintro _ c1 ⟨z,rfl,hz⟩
  refine rn trivial ?_
  refine QH (k:=0) (c:=c1) (QP c1 6 (by omega) (by omega)) rfl rfl ?_
  rintro _ c2 ⟨z2,rfl,hz2⟩
  have hcw:=fun (hp:Qa) (k o n:Nat)=>Qev (hp:=hp) (k:=k) (off:=o) (len:=n) QCW
  have mk:=fun (n:Nat) (h:n<=1000000000) (A B:Option (DV × Qa))=>QrT (n:=n) (A:=A) (B:=B) h
  refine rn F ?_
  repeat' (first
    | with_reducible exact ⟨⟩
    | (refine sB F ?_ ?_<;>intro hZ))
  case' refine_1=>
    refine QH (k:=0) (c:=c2) (QP c2 14 (by omega) (by omega)) rfl rfl ?_
    rintro _ c3 ⟨n,rfl,hn⟩
  case' refine_2=>
    obtain ⟨n,rfl,hn⟩:∃ n:Nat,n = z/\n < 14:=⟨z,rfl,by omega⟩
    obtain ⟨c3,rfl⟩:∃ c3,c3 = c2:=⟨c2,rfl⟩
  all_goals
    have hm:=fun A B=>mk n (by omega) A B
    have hr:List.replicate 0 (0:UInt8) = []:=rfl
    refine rn (And.intro @hm @hr) ?_
    refine Qg (fun i:DSt n=>⟨29,1,[(5,.int .i64 i.l.length),(3,.int .i64 n),(4,.own 1 1 0 i.l.length),(0,.ptr 0 0)],[cb i.c,⟨5,true,cells QeY i.l⟩]⟩) (fun i=>n - i.l.length) ⟨c3,[],Nat.zero_le _⟩ (gc [0,1]) ?_
    rintro ⟨c4,l,hl⟩
    dsimp only
    have hvc:=fun hp:Qa=>@Qc2 hp l _ rfl
    by_cases hc:l.length < n
    · skip
      refine rn F ?_
      refine QH (k:=0) (c:=c4) (QP c4 3 (by omega) (by omega)) rfl rfl ?_
      rintro r c5 ⟨y,rfl,hy⟩
      obtain ⟨u,hu⟩:∃ u:UInt8,97 + (y:Int) = (u.toNat:Int):=QCg _ (by omega)
      have e2:cells QeY l ++ [.pv (.lit (.int .u8 u.toNat))] = cells QeY (l ++ [u]):=(QE QeY l [u]).symm
      have e3:(cells QeY l).take l.length = cells QeY l:=by rw [List.take_of_length_le]; rw [Qdo]; exact Nat.le_refl _
      have hub:u.toNat < 256:=u.toNat_lt
      have hs2:l.length<=140737488355327:=by omega
      refine rn (And.intro @hu (And.intro @hs2 (And.intro @e3 @e2))) ?_
      have hl2:(l ++ [u]).length = l.length + 1:=by simp
      refine ⟨⟨c5,l ++ [u],by rw [hl2]; omega⟩,by dsimp only; rw [hl2]; omega,?_⟩
      dsimp only
      rw [hl2]
      exact (gc [0,3])
    · skip
      have F:=(And.intro @hcw @hvc)
      refine rn F ?_
      exact ⟨_,rfl,rfl,Qam _,rfl,⟨_,rfl,by omega⟩,c4,rfl⟩
end
section
attribute [local go_sem] cb cc Ce.d Ch.d
abbrev ChX:DV->Prop:=fun r=>∃ x:Ch,r = .agg x.d
abbrev EX:DV->Prop:=fun r=>∃ x:E,r = .agg x.d
theorem Ql4 (c:C) (x:Ch):VCalls prog 56 [.ptr 0 0,.agg x.d] [cb c] (CX ChX):=by
  refine dd Tryz.func56 ?_
  obtain ⟨pg,sl,⟨b1,b2⟩,⟨a1,a2⟩⟩:=x
  (unfold Tryz.f56; refine rn trivial ?_)
  refine rn F ?_
  repeat' (first
    | with_reducible exact ⟨⟩
    | (refine sB F ?_ ?_<;>intro hZ)
    | (refine QH (k:=0) (QP _ 4 (by omega) (by omega)) rfl rfl ?_; rintro _ _ ⟨_,rfl,_⟩; refine rn F ?_)
    | (refine QH (k:=0) (QP _ 2 (by omega) (by omega)) rfl rfl ?_; rintro _ _ ⟨_,rfl,_⟩; refine rn F ?_)
    | (refine QH (k:=0) (Qr7 _) rfl rfl ?_; rintro _ _ ⟨_,rfl,_⟩; refine rn F ?_)
    | (refine QH (k:=0) (QsR _) rfl rfl ?_; rintro _ _ ⟨_,rfl,_⟩; refine rn F ?_))
  all_goals exact ⟨_,rfl,rfl,Qam _,rfl,⟨⟨_,_,⟨_,_⟩,⟨_,_⟩⟩,rfl⟩,_,rfl⟩
theorem Qou (c:C) (x:E):VCalls prog 33 [.ptr 0 0,.agg x.d] [cb c] (CX EX):=by
  refine dd Tryz.func33 ?_
  unfold E.d
  obtain ⟨lsn,kind,tx,ptx,ppg,ref,⟨pg,sl,⟨b1,b2⟩,⟨a1,a2⟩⟩,blob⟩:=x
  (unfold Tryz.f33; refine rn trivial ?_)
  have hcw:=fun (hp:Qa) (k o n:Nat)=>Qev (hp:=hp) (k:=k) (off:=o) (len:=n) QCW
  refine rn F ?_
  repeat' (first
    | with_reducible exact ⟨⟩
    | (refine sB F ?_ ?_<;>intro hZ)
    | (refine QH (k:=0) (QP _ 9 (by omega) (by omega)) rfl rfl ?_; rintro _ _ ⟨_,rfl,_⟩; refine rn F ?_)
    | (refine QH (k:=0) (QP _ 11 (by omega) (by omega)) rfl rfl ?_; rintro _ _ ⟨_,rfl,_⟩; refine rn F ?_)
    | (refine QH (k:=0) (Qr7 _) rfl rfl ?_; rintro _ _ ⟨_,rfl,_⟩; refine rn F ?_)
    | (refine QH (k:=0) (Ql4 _ ⟨pg,sl,⟨b1,b2⟩,⟨a1,a2⟩⟩) rfl rfl ?_; rintro _ _ ⟨_,rfl,_⟩; refine rn F ?_)
    | (refine QH (k:=0) (QsR _) rfl rfl ?_; rintro _ _ ⟨_,rfl,_⟩; refine rn F ?_))
  all_goals first
    | exact ⟨_,rfl,rfl,Qam _,rfl,⟨⟨_,_,_,_,_,_,⟨_,_,⟨_,_⟩,⟨_,_⟩⟩,_⟩,rfl⟩,_,rfl⟩
    | skip
  · refine QH (k:=0) (QP _ 2 (by omega) (by omega)) rfl rfl ?_
    rintro _ c2 ⟨n,rfl,hn⟩
    obtain ⟨m,hm,hm1⟩:∃ m:Nat,8192 + (n:Int) = m/\m<=9000:=⟨8192 + n,by omega,by omega⟩
    have hrl:(List.replicate m (0:UInt8)).length = m:=List.length_replicate
    have hvc:=fun hp:Qa=>@Qc2 hp _ _ hrl
    have F:=(And.intro @hm (And.intro @hm1 (And.intro @hcw @hvc)))
    refine rn F ?_
    exact ⟨_,rfl,rfl,Qam _,rfl,⟨⟨_,_,_,_,_,_,⟨_,_,⟨_,_⟩,⟨_,_⟩⟩,_⟩,rfl⟩,_,rfl⟩
end
section
attribute [local go_sem] cb cc Lg.c
theorem gE (l:List E) (i j:Nat) (h:i < l.length) (hj:j < 13):(cells encE l)[i * 13 + j]? = ((encE.enc (l.getD i E0)).map DV.pv)[j]?:=by
  have:=Qex encE l i h
  rw [Qk l i h]
  rw [<- this,List.getElem?_take,if_pos (show j < encE.sz from hj),List.getElem?_drop]; rfl
theorem gE0 (l:List E) (i:Nat) (h:i < l.length):(cells encE l)[i * 13]? = some (.pv (.lit (.int .i64 (l.getD i E0).lsn))):=gE l i 0 h (by decide)
theorem sE3 (l:List E) (i:Nat) (h:i < l.length) (x:Int):(cells encE l).set (i * 13 + 3) (.pv (.lit (.int .i64 x))) = cells encE (l.set i { l.getD i E0 with ptx:=x }):=QDO encE l i 3 _ _ h (by decide) (by rw [Qk l i h]; rfl)
theorem sE4 (l:List E) (i:Nat) (h:i < l.length) (x:Int):(cells encE l).set (i * 13 + 4) (.pv (.lit (.int .i64 x))) = cells encE (l.set i { l.getD i E0 with ppg:=x }):=QDO encE l i 4 _ _ h (by decide) (by rw [Qk l i h]; rfl)
theorem Qya (l:List E) (i:Nat) (h:i < l.length) (e:E):(cells encE l).take (i * 13) ++ [.pv (.lit (.int .i64 e.lsn)),.pv (.lit (.int .i64 e.kind)),.pv (.lit (.int .i64 e.tx)),.pv (.lit (.int .i64 e.ptx)),.pv (.lit (.int .i64 e.ppg)),.pv (.lit (.int .i64 e.ref)),.pv (.lit (.int .i64 e.c.pg)),.pv (.lit (.int .i64 e.c.sl)),.pv (.lit (.bool e.c.b.set)),.pv (.str e.c.b.data),.pv (.lit (.bool e.c.a.set)),.pv (.str e.c.a.data),.pv (.str e.blob)] ++ (cells encE l).drop (i * 13 + 13) = cells encE (l.set i e):=QjZ encE l i e h
theorem elE (l:List E) (i:Nat) (h:i < l.length):((cells encE l).drop (i * 13)).take 13 = (l.getD i E0).d:=by rw [Qk l i h]; exact Qex encE l i h
end
end Go.Proofs.YtepcgifhpjapkaaGreat


import Derived.Test.YtckljdhdadiphaaGreatDoorQR
import Derived.Test.YtckljdhdadiphaaGreatDoorQ7
namespace Go.Proofs.YtckljdhdadiphaaGreatDoor
open Go.RowKit
set_option linter.unusedVariables false
set_option linter.unusedSimpArgs false
noncomputable def jY(l:List Int)(r:Nat)(st:ak.T):Int:=match l with
 | []=>6
 |b::t=>if 4≤l.length then(match decide (l.drop (l.length-3)= [((aS (aQ b) (ag l) r st / 65536:Nat):Int),((aS (aQ b) (ag l) r st / 256 % 256:Nat):Int),((aS (aQ b) (ag l) r st % 256:Nat):Int)])with
  |false=>7
  |true=>match(a8 (ag l)).2 with
   |false=>6
   |true=>5)else 6
theorem tA(l:List Int)(r:Nat)(st:ak.T):jY l r st=5∨jY l r st=6∨jY l r st=7:=by
 unfold jY
 split
 ·exact .inr (.inl rfl)
 ·split
  ·split
   ·exact .inr (.inr rfl)
   ·split
    ·exact .inr (.inl rfl)
    ·exact .inl rfl
  ·exact .inr (.inl rfl)
theorem T2 {l:List Int}(r:Nat)(st:ak.T)(h4:¬4≤l.length):jY l r st=6:=by
 unfold jY
 split
 ·rfl
 ·rw[if_neg h4]
theorem Zt(l:List Int)(r:Nat)(st:ak.T)(hl:l.length≤10000)(hb:∀v ∈ l,0≤v∧v≤255)(hr:r<16777216)(hst:bq st=true):
  jc (l,(r:Int),st,())=some (if ct l r st=true then(a8 (ag l)).1 else c6,if ct l r st=true then 0 else jY l r st,()):=by
 by_cases h4:4≤l.length
 ·have hw:IntKind.i64.wrap ((l.length:Int)-3)=((l.length-3:Nat):Int):=by rw[ai]<;>omega
  have hd:decide (((l.length-3:Nat):Int)<1)=false:=decide_eq_false (by omega)
  have w1:IntKind.i64.wrap (((l.length-3:Nat):Int)+1)=((l.length-3+1:Nat):Int):=by rw[ai]<;>omega
  have w2:IntKind.i64.wrap (((l.length-3:Nat):Int)+2)=((l.length-3+2:Nat):Int):=by rw[ai]<;>omega
  have x0:=au (l:=l) (i:=l.length-3) (by omega)
  have x1:=au (l:=l) (i:=l.length-3+1) (by omega)
  have x2:=au (l:=l) (i:=l.length-3+2) (by omega)
  have b1:aM l.length none (some (.dat (.int .i64) ((l.length-3:Nat):Int)))=some (0,l.length-3):=km (by omega)
  have e1:List.drop 0 (List.take (l.length-3) l)=ag l:=rfl
  obtain⟨b,t,e⟩:∃b t,l=b::t:=by
   cases l with
   |nil=>simp at h4
   |cons b t=>exact⟨b,t,rfl⟩
  have y0:av l (0:Int)=some b:=by rw[e];exact(oh b t).2.2
  have hlb:(ag l).length≤10000:=by unfold ag;rw[List.length_take];omega
  have hk0:IntKind.i64.wrap (Int.tdiv b (64:Int))=aQ b:=rfl
  have hn:=NH (aQ b) (ag l) r st hlb (fun v hv=>hb v (List.mem_of_mem_take hv)) hr hst
  have hn':jb (aQ b,ag l,(r:Int),(st.1,st.2.1,st.2.2.1,st.2.2.2.1,st.2.2.2.2.1,()),())=_:=hn
  have hq:=Oz _ (lg (aQ b) (ag l) r st hr) _ _ _ (hb _ (List.getElem_mem (show l.length-3<l.length by omega))) (hb _ (List.getElem_mem (show l.length-3+1<l.length by omega))) (hb _ (List.getElem_mem (show l.length-3+2<l.length by omega)))
  have ho:ct l r st=(decide (l.drop (l.length-3)= [((aS (aQ b) (ag l) r st / 65536:Nat):Int),((aS (aQ b) (ag l) r st / 256 % 256:Nat):Int),((aS (aQ b) (ag l) r st % 256:Nat):Int)])&&((a8 (ag l)).2&&(!((a8 (ag l)).1.1 != (0:Int))||cS ak (a8 (ag l)).1.2.2.1 st))):=by
   rw[e]at h4 ⊢
   simp only[ct,decide_eq_true h4,Bool.true_and]
  rw[←Yr h4]at hq
  have hf:=Yp (ag l) (by omega)
  have hz:cS ak ((a8 (ag l)).1.2.2.1.1,(a8 (ag l)).1.2.2.1.2.1,(a8 (ag l)).1.2.2.1.2.2.1,(a8 (ag l)).1.2.2.1.2.2.2.1,(a8 (ag l)).1.2.2.1.2.2.2.2.1,()) (st.1,st.2.1,st.2.2.1,st.2.2.2.1,st.2.2.2.2.1,())=cS ak (a8 (ag l)).1.2.2.1 st:=rfl
  have hoc:jY l r st=match decide (l.drop (l.length-3)= [((aS (aQ b) (ag l) r st / 65536:Nat):Int),((aS (aQ b) (ag l) r st / 256 % 256:Nat):Int),((aS (aQ b) (ag l) r st % 256:Nat):Int)])with
   |false=>7
   |true=>match(a8 (ag l)).2 with
    |false=>6
    |true=>5:=by
   rw[e]at h4 ⊢
   simp only[jY,if_pos h4]
  rw[ho,hoc]
  unfold jc
  simp only[hw,hd,w1,w2,x0,x1,x2,y0,b1,e1,ab,hk0,hn',hq,hf,dj,hz]
  generalize decide (l.drop (l.length-3)= [((aS (aQ b) (ag l) r st / 65536:Nat):Int),((aS (aQ b) (ag l) r st / 256 % 256:Nat):Int),((aS (aQ b) (ag l) r st % 256:Nat):Int)])=q1
  rcases Bool.eq_false_or_eq_true q1 with h1|h1<;>simp only[h1,Bool.not_true,Bool.not_false,Bool.true_and,Bool.false_and]
  ·rcases Bool.eq_false_or_eq_true (a8 (ag l)).2 with h2|h2<;>simp only[h2,Bool.not_true,Bool.not_false,Bool.true_and,Bool.false_and]
   ·rcases Bool.eq_false_or_eq_true ((a8 (ag l)).1.1 != (0:Int))with h3|h3<;>simp only[h3,Bool.not_true,Bool.not_false,Bool.true_or,Bool.false_or]
    ·rcases Bool.eq_false_or_eq_true (cS ak (a8 (ag l)).1.2.2.1 st)with h5|h5<;>simp only[h5]
     ·rfl
     ·rfl
    ·rfl
   ·rfl
  ·rfl
 ·have hw:IntKind.i64.wrap ((l.length:Int)-3)=(l.length:Int)-3:=by rw[ai]<;>omega
  have hd:decide ((l.length:Int)-3<1)=true:=decide_eq_true (by omega)
  have ho:ct l r st=false:=by
   unfold ct
   split
   ·rfl
   ·rw[decide_eq_false h4,Bool.false_and]
  have h6:=T2 (l:=l) r st h4
  rw[ho,h6]
  unfold jc
  simp only[hw,hd]
  rfl
theorem Zu(l:List Int)(r:Nat)(st:ak.T)(hl:l.length≤10000)(hb:∀v ∈ l,0≤v∧v≤255)(hr:r<16777216)(hst:bq st=true)(hB:dW l=true):
  i8 (l,(r:Int),st,())=some (if ct l r st=true then(a8 (ag l)).1 else c6,if ct l r st=true then 0 else jY l r st,()):=by
 have g1:fF ((st.1,st.2.1,st.2.2.1,st.2.2.2.1,st.2.2.2.2.1,()),())=some (true,()):=by
  rw[show fF ((st.1,st.2.1,st.2.2.1,st.2.2.2.1,st.2.2.2.2.1,()),())=some (bq st,()) from GD (st,()),hst]
 have g2:zI ((r:Int),())=some (true,()):=by
  unfold zI
  simp only[oY]
  rw[bc.2 ⟨by omega,by omega⟩]
 have g3:kN (l,())=some (dW l,()):=NC (l,()) (by show l.length≤_;omega)
 unfold i8
 simp only[g1,g2,g3,Bool.not_true]
 ·simp only[hB,Bool.not_true]
  by_cases h4:4≤l.length
  ·have hw:IntKind.i64.wrap ((l.length:Int)-3)=((l.length-3:Nat):Int):=by rw[ai]<;>omega
   have hd:decide (((l.length-3:Nat):Int)<1)=false:=decide_eq_false (by omega)
   have b1:aM l.length none (some (.dat (.int .i64) ((l.length-3:Nat):Int)))=some (0,l.length-3):=km (by omega)
   have b2:aM l.length (some (.dat (.int .i64) ((l.length-3:Nat):Int))) none=some (l.length-3,l.length):=sf (by omega)
   have e1:List.drop 0 (List.take (l.length-3) l)=ag l:=rfl
   have e2:List.drop (l.length-3) (List.take l.length l)=l.drop (l.length-3):=by rw[List.take_length]
   obtain⟨b,t,e⟩:∃b t,l=b::t:=by
    cases l with
    |nil=>simp at h4
    |cons b t=>exact⟨b,t,rfl⟩
   have y0:av l (0:Int)=some b:=by rw[e];exact(oh b t).2.2
   have hlb:(ag l).length≤10000:=by unfold ag;rw[List.length_take];omega
   have hk0:IntKind.i64.wrap (Int.tdiv b (64:Int))=aQ b:=rfl
   have hn:=NG (aQ b) (ag l) r st hlb (fun v hv=>hb v (List.mem_of_mem_take hv)) hr hst
   have hn':gq (aQ b,ag l,(r:Int),(st.1,st.2.1,st.2.2.1,st.2.2.2.1,st.2.2.2.2.1,()),())=_:=hn
   have ho:ct l r st=(decide (l.drop (l.length-3)= [((aS (aQ b) (ag l) r st / 65536:Nat):Int),((aS (aQ b) (ag l) r st / 256 % 256:Nat):Int),((aS (aQ b) (ag l) r st % 256:Nat):Int)])&&((a8 (ag l)).2&&(!((a8 (ag l)).1.1 != (0:Int))||cS ak (a8 (ag l)).1.2.2.1 st))):=by
    rw[e]at h4 ⊢
    simp only[ct,decide_eq_true h4,Bool.true_and]
   have hq:=GH _ (lg (aQ b) (ag l) r st hr)
   have hs:=LM [((aS (aQ b) (ag l) r st / 65536:Nat):Int),((aS (aQ b) (ag l) r st / 256 % 256:Nat):Int),((aS (aQ b) (ag l) r st % 256:Nat):Int)] (l.drop (l.length-3)) (by simp)
   have hc:decide ([((aS (aQ b) (ag l) r st / 65536:Nat):Int),((aS (aQ b) (ag l) r st / 256 % 256:Nat):Int),((aS (aQ b) (ag l) r st % 256:Nat):Int)]=l.drop (l.length-3))=decide (l.drop (l.length-3)= [((aS (aQ b) (ag l) r st / 65536:Nat):Int),((aS (aQ b) (ag l) r st / 256 % 256:Nat):Int),((aS (aQ b) (ag l) r st % 256:Nat):Int)]):=by
    rw[decide_eq_decide]
    exact eq_comm
   rw[hc]at hs
   have hf:=Yq (ag l) (by omega)
   have hz:cS ak ((a8 (ag l)).1.2.2.1.1,(a8 (ag l)).1.2.2.1.2.1,(a8 (ag l)).1.2.2.1.2.2.1,(a8 (ag l)).1.2.2.1.2.2.2.1,(a8 (ag l)).1.2.2.1.2.2.2.2.1,()) (st.1,st.2.1,st.2.2.1,st.2.2.2.1,st.2.2.2.2.1,())=cS ak (a8 (ag l)).1.2.2.1 st:=rfl
   have hoc:jY l r st=match decide (l.drop (l.length-3)= [((aS (aQ b) (ag l) r st / 65536:Nat):Int),((aS (aQ b) (ag l) r st / 256 % 256:Nat):Int),((aS (aQ b) (ag l) r st % 256:Nat):Int)])with
    |false=>7
    |true=>match(a8 (ag l)).2 with
     |false=>6
     |true=>5:=by
    rw[e]at h4 ⊢
    simp only[jY,if_pos h4]
   rw[ho,hoc]
   simp only[hw,hd,y0,b1,b2,e1,e2,ab,hk0,hn',hq,hs,hf,fU]
   generalize decide (l.drop (l.length-3)= [((aS (aQ b) (ag l) r st / 65536:Nat):Int),((aS (aQ b) (ag l) r st / 256 % 256:Nat):Int),((aS (aQ b) (ag l) r st % 256:Nat):Int)])=q1
   rcases Bool.eq_false_or_eq_true q1 with h1|h1<;>simp only[h1,Bool.not_true,Bool.not_false,Bool.true_and,Bool.false_and]
   ·rcases Bool.eq_false_or_eq_true (a8 (ag l)).2 with h2|h2<;>simp only[h2,Bool.not_true,Bool.not_false,Bool.true_and,Bool.false_and,if_true]
    ·rcases Bool.eq_false_or_eq_true ((a8 (ag l)).1.1 != (0:Int))with h3|h3<;>simp only[h3,hz,Bool.not_true,Bool.not_false,Bool.true_or,Bool.false_or]
     ·rcases Bool.eq_false_or_eq_true (cS ak (a8 (ag l)).1.2.2.1 st)with h5|h5<;>simp only[h5]
      ·rfl
      ·rfl
     ·rfl
    ·rfl
   ·rfl
  ·have hw:IntKind.i64.wrap ((l.length:Int)-3)=(l.length:Int)-3:=by rw[ai]<;>omega
   have hd:decide ((l.length:Int)-3<1)=true:=decide_eq_true (by omega)
   have ho:ct l r st=false:=by
    unfold ct
    split
    ·rfl
    ·rw[decide_eq_false h4,Bool.false_and]
   have h6:=T2 (l:=l) r st h4
   rw[ho,h6]
   simp only[hw,hd]
   rfl
noncomputable def A1(m:ar.T)(st:ak.T)(l:List Int):Int:=if ct l m.1.toNat st=true then(if fk (cD m st) (a8 (ag l)).1=true then 0 else 5)else jY l m.1.toNat st
theorem X7(m:ar.T)(st:ak.T)(l:List Int)(h:bL m=true)(hb:aP m st=true)(hl:l.length≤10000)(hv:∀v ∈ l,0≤v∧v≤255)(hB:dW l=true):pw (m,st,l,())=some (kL m st l,A1 m st l,()):=by
 obtain⟨r,er,hr⟩:=rO h
 have hst:bq st=true:=by unfold aP at hb;rw[Bool.and_eq_true]at hb;exact hb.1
 have ho:=Zu l r st hl hv hr hst hB
 obtain⟨_,hd,_⟩:=jj m st h hb
 have ho':i8 (l,(r:Int),(st.1,st.2.1,st.2.2.1,st.2.2.2.1,st.2.2.2.2.1,()),())=_:=ho
 have hd':dv ((m.1,m.2.1,m.2.2.1,m.2.2.2.1,()),(st.1,st.2.1,st.2.2.1,st.2.2.2.1,st.2.2.2.2.1,()),())=_:=hd
 unfold pw kL A1
 rw[er]at hd'
 simp only[er,ho',hd',NN,Int.toNat_natCast]
 rcases Bool.eq_false_or_eq_true (ct l r st)with h1|h1
 ·simp only[h1,if_true,Bool.true_and]
  have hz:((0:Int)==0)=true:=rfl
  have hfe:fk (cD m st) ((a8 (ag l)).1.1,(a8 (ag l)).1.2.1,((a8 (ag l)).1.2.2.1.1,(a8 (ag l)).1.2.2.1.2.1,(a8 (ag l)).1.2.2.1.2.2.1,(a8 (ag l)).1.2.2.1.2.2.2.1,(a8 (ag l)).1.2.2.1.2.2.2.2.1,()),(a8 (ag l)).1.2.2.2.1,())=fk (cD m st) (a8 (ag l)).1:=rfl
  simp only[hz,hfe]
  rcases Bool.eq_false_or_eq_true (fk (cD m st) (a8 (ag l)).1)with h2|h2
  ·simp only[h2];rfl
  ·simp only[h2];rfl
 ·have hz:(jY l r st==0)=false:=by rcases tA l r st with h|h|h<;>rw[h]<;>rfl
  have hz2:(jY l r st != 0)=true:=by rcases tA l r st with h|h|h<;>rw[h]<;>rfl
  simp only[h1,Bool.false_eq_true,if_false,Bool.false_and,hz,hz2]
  rfl
theorem X8(m:ar.T)(st:ak.T)(l:List Int)(h:bL m=true)(hb:aP m st=true)(hl:l.length≤10000)(hv:∀v ∈ l,0≤v∧v≤255):jT (m,st,l,())=some (kL m st l,A1 m st l,()):=by
 obtain⟨r,er,hr⟩:=rO h
 have hst:bq st=true:=by unfold aP at hb;rw[Bool.and_eq_true]at hb;exact hb.1
 have ho:=Zt l r st hl hv hr hst
 obtain⟨hd,_,hdc⟩:=jj m st h hb
 have ho':jc (l,(r:Int),(st.1,st.2.1,st.2.2.1,st.2.2.2.1,st.2.2.2.2.1,()),())=_:=ho
 have hd':gr ((m.1,m.2.1,m.2.2.1,m.2.2.2.1,()),(st.1,st.2.1,st.2.2.1,st.2.2.2.1,st.2.2.2.2.1,()),())=_:=hd
 unfold jT kL A1
 rw[er]at hd'
 simp only[er,ho',hd',Int.toNat_natCast]
 rcases Bool.eq_false_or_eq_true (ct l r st)with h1|h1
 ·have hz:((0:Int)==0)=true:=rfl
  have hfr:=tw (vO h1)
  have hfe:c9 (cD m st,((a8 (ag l)).1.1,(a8 (ag l)).1.2.1,((a8 (ag l)).1.2.2.1.1,(a8 (ag l)).1.2.2.1.2.1,(a8 (ag l)).1.2.2.1.2.2.1,(a8 (ag l)).1.2.2.1.2.2.2.1,(a8 (ag l)).1.2.2.1.2.2.2.2.1,()),(a8 (ag l)).1.2.2.2.1,()),())=some (fk (cD m st) (a8 (ag l)).1,()):=NP _ _ hdc hfr (Nat.le_trans (pH hfr) (by omega))
  simp only[h1,if_true,Bool.true_and,hz,hfe]
  rcases Bool.eq_false_or_eq_true (fk (cD m st) (a8 (ag l)).1)with h2|h2
  ·simp only[h2];rfl
  ·simp only[h2];rfl
 ·have hz:(jY l r st==0)=false:=by rcases tA l r st with h|h|h<;>rw[h]<;>rfl
  have hz2:(jY l r st != 0)=true:=by rcases tA l r st with h|h|h<;>rw[h]<;>rfl
  simp only[h1,Bool.false_eq_true,if_false,Bool.false_and,hz,hz2]
  rfl
theorem OT {l:List Int}:∀(n f:Nat) (acc e:List Int) (f':Nat),gC l n f acc=some (e,f')→77*e.length+f≤77*acc.length+l.length
 |0,_,_,_,_,h=>by cases h
 |n+1,f,acc,e,f',h=>by
  rw[gC]at h
  split at h
  ·rename_i h0
   cases h
   have:=GQ h0
   simp only[List.length_append,List.length_cons,List.length_nil]
   omega
  ·split at h
   ·cases h
   ·rename_i g hg
    split at h
    ·cases h
    ·have:=OT n g (acc++ [(f:Int)]) e f' h
     have h2:=yG hg
     simp only[List.length_append,List.length_cons,List.length_nil]at this
     omega
theorem X9(l:List Int):77*(cZ l).length≤l.length:=by
 unfold cZ rG
 cases hA:bo l 0 0 with
 |none=>simp
 |some a=>
  simp only
  split
  ·cases hF:bo l 0 (eL l a+1)with
   |none=>simp
   |some f=>
    simp only
    split
    ·simp
    ·split
     ·simp
     ·cases he:gC l (l.length+1) f []with
      |none=>simp
      |some r=>
       obtain⟨e,f'⟩:=r
       have:=OT _ _ _ _ _ he
       simp only[List.length_nil]at this
       simp only
       omega
  ·simp
theorem PB {l:List Int}(hl:l.length≤8192):dW (aW l).1=true:=by
 obtain⟨h1,h2⟩:=nd hl
 have h3:(aW l).1.length≤1024:=by
  unfold aW
  split
  ·have:=X9 (iX l)
   rw[oZ]at this
   show(mJ (iX l) (cZ (iX l))).length≤1024
   unfold mJ
   rw[List.length_map]
   omega
  ·exact Nat.zero_le _
 unfold dW
 rw[Bool.and_eq_true,decide_eq_true_eq,List.all_eq_true]
 exact⟨by omega,fun v hv=>bc.2 (h2 v hv)⟩
noncomputable def vH(m:ar.T)(st:ak.T)(l:List Int):Int:=if(aW l).2.1=0 then A1 m st (aW l).1 else(aW l).2.1
theorem Zv(m:ar.T)(st:ak.T)(l:List Int)(h:bL m=true)(hb:aP m st=true)(hl:bJ l=true):jP (m,st,l,())=some (dL m st l,vH m st l,()):=by
 obtain⟨h1,h2⟩:=nd (cK hl)
 have hj:=X7 m st (aW l).1 h hb (by omega) h2 (PB (cK hl))
 have hj':pw ((m.1,m.2.1,m.2.2.1,m.2.2.2.1,()),(st.1,st.2.1,st.2.2.1,st.2.2.2.1,st.2.2.2.2.1,()),(aW l).1,())=_:=hj
 unfold jP dL vH
 simp only[F7 hl,hj']
 by_cases h0:(aW l).2.1=0
 ·have g:((aW l).2.1==0)=true:=by rw[h0];rfl
  simp only[g,if_pos h0]
 ·have g:((aW l).2.1==0)=false:=by simpa using h0
  simp only[g,if_neg h0]
  by_cases h4:(aW l).2.1=4
  ·have g4:((aW l).2.1==4)=true:=by rw[h4];rfl
   simp only[g4,if_pos h4]
   rfl
  ·have g4:((aW l).2.1==4)=false:=by simpa using h4
   simp only[g4,if_neg h4]
   rfl
theorem Zw(m:ar.T)(st:ak.T)(l:List Int)(h:bL m=true)(hb:aP m st=true)(hl:bJ l=true):gg (m,st,l,())=some (dL m st l,vH m st l,()):=by
 obtain⟨h1,h2⟩:=nd (cK hl)
 have hj:=X8 m st (aW l).1 h hb (by omega) h2
 have hj':jT ((m.1,m.2.1,m.2.2.1,m.2.2.2.1,()),(st.1,st.2.1,st.2.2.1,st.2.2.2.1,st.2.2.2.2.1,()),(aW l).1,())=_:=hj
 unfold gg dL vH
 simp only[Rn hl,hj']
 by_cases h0:(aW l).2.1=0
 ·have g:((aW l).2.1==0)=true:=by rw[h0];rfl
  simp only[g,if_pos h0]
 ·have g:((aW l).2.1==0)=false:=by simpa using h0
  simp only[g,if_neg h0]
  by_cases h4:(aW l).2.1=4
  ·have g4:((aW l).2.1==4)=true:=by rw[h4];rfl
   simp only[g4,if_pos h4]
   rfl
  ·have g4:((aW l).2.1==4)=false:=by simpa using h4
   simp only[g4,if_neg h4]
   rfl
noncomputable def A2(m:ar.T)(st:ak.T)(l:List Int):Int×Int×Unit:=match bL m with
 |false=>((0:Int),(1:Int),())
 |true=>match aP m st with
  |false=>((0:Int),(2:Int),())
  |true=>match bJ l with
   |false=>((0:Int),(2:Int),())
   |true=>(vH m st l,(0:Int),())
theorem Zx(m:ar.T)(st:ak.T)(l:List Int)(hz:eM m)(hl:l.length≤1099511627776):th (m,st,l,())=some (A2 m st l):=by
 have hM:iq ((m.1,m.2.1,m.2.2.1,m.2.2.2.1,()),())=_:=Gg m hz
 unfold th lm fW A2
 simp only[LI l hl,hM]
 rcases Bool.eq_false_or_eq_true (bL m)with h1|h1<;>simp only[h1,Bool.not_true,Bool.not_false]
 ·have hB:i7 ((m.1,m.2.1,m.2.2.1,m.2.2.2.1,()),(st.1,st.2.1,st.2.2.1,st.2.2.2.1,st.2.2.2.2.1,()),())=_:=LW m st h1
  simp only[hB]
  rcases Bool.eq_false_or_eq_true (aP m st)with h2|h2<;>simp only[h2,Bool.not_true,Bool.not_false]
  ·rcases Bool.eq_false_or_eq_true (bJ l)with h3|h3<;>simp only[h3,Bool.not_true,Bool.not_false]
   ·have hr:=Zv m st l h1 h2 h3
    have hr':jP ((m.1,m.2.1,m.2.2.1,m.2.2.2.1,()),(st.1,st.2.1,st.2.2.1,st.2.2.2.1,st.2.2.2.2.1,()),l,())=_:=hr
    simp only[hr']
    rfl
   ·rfl
  ·rfl
 ·rfl
theorem Zy(m:ar.T)(st:ak.T)(l:List Int)(hz:eM m)(hl:l.length≤1099511627776):ti (m,st,l,())=some (A2 m st l):=by
 have hM:ix ((m.1,m.2.1,m.2.2.1,m.2.2.2.1,()),())=_:=Gf m hz
 unfold ti tg mn A2
 simp only[tk l hl,hM]
 rcases Bool.eq_false_or_eq_true (bL m)with h1|h1<;>simp only[h1,Bool.not_true,Bool.not_false]
 ·have hB:fZ ((m.1,m.2.1,m.2.2.1,m.2.2.2.1,()),(st.1,st.2.1,st.2.2.1,st.2.2.2.1,st.2.2.2.2.1,()),())=_:=PI m st h1
  simp only[hB]
  rcases Bool.eq_false_or_eq_true (aP m st)with h2|h2<;>simp only[h2,Bool.not_true,Bool.not_false]
  ·rcases Bool.eq_false_or_eq_true (bJ l)with h3|h3<;>simp only[h3,Bool.not_true,Bool.not_false]
   ·have hr:=Zw m st l h1 h2 h3
    have hr':gg ((m.1,m.2.1,m.2.2.1,m.2.2.2.1,()),(st.1,st.2.1,st.2.2.1,st.2.2.2.1,st.2.2.2.2.1,()),l,())=_:=hr
    simp only[hr']
    rfl
   ·rfl
  ·rfl
 ·rfl
theorem Vc {m:ar.T}{st:ak.T}{f:ba.T}(hs:jy m st f=true):bA f=true:=by
 unfold jy at hs
 simp only[Bool.and_eq_true]at hs
 exact hs.1.1
theorem like_ints(c:List Int)(hl:c.length≤1000000):jL (c,c,())=some (true,()):=by
 have e:=ju (B:=dp) c (fun i=>(c,c,(i:Int),())) (fun _=>true) (.inl ()) (.inr (false,())) (by simp only[dp,bu]) (fun i h=>by
  simp only[dp,bj h,aL h (show c.length≤1099511627776 by omega),au h,ab,gW]
  rfl)
 have e:ac dp (c,c,(0:Int),())=_:=e
 have hn:((c.length:Int) != (c.length:Int))=false:=gW _
 have ha:c.all (fun _=>true)=true:=by simp
 unfold jL
 simp only[hn,e,ha]
 rfl
theorem like_frame(f:ba.T)(hl:f.2.2.2.1.length≤1000000):kx (f,f,())=some (true,()):=by
 have hi:=like_ints f.2.2.2.1 hl
 have hq:∀a:Int,(a==a)=true:=fun a=>by simp
 have hs:cS ak f.2.2.1 f.2.2.1=true:=by simp[cS]
 unfold kx
 simp only[hq,hs,hi]
theorem like_verdict(v:bI.T)(hl:v.2.1.2.2.2.1.length≤1000000):dq (v,v,())=some (true,()):=by
 have hq:∀a:Int,(a==a)=true:=fun a=>by simp
 unfold dq
 simp only[hq,like_frame v.2.1 hl]
theorem Zz(m:ar.T)(st:ak.T)(hz:eM m)(h:bL m=true)(hb:aP m st=true):jQ (m,st,())=some (cD m st,(0:Int),()):=by
 have hk:=Zn m st hz
 simp only[h,hb]at hk
 have hk:fW ((m.1,m.2.1,m.2.2.1,m.2.2.2.1,()),(st.1,st.2.1,st.2.2.1,st.2.2.2.1,st.2.2.2.2.1,()),())=some ((0:Int),()):=hk
 obtain⟨_,hd,_⟩:=jj m st h hb
 have hd:dv ((m.1,m.2.1,m.2.2.1,m.2.2.2.1,()),(st.1,st.2.1,st.2.2.1,st.2.2.2.1,st.2.2.2.2.1,()),())=_:=hd
 unfold jQ
 simp only[hk,hd]
 rfl
theorem ZA(m:ar.T)(st:ak.T)(f:ba.T)(hz:eM m)(hl:f.2.2.2.1.length≤1099511627776):mh (m,st,f,())=some (if dX m st f=0 then(fz f m.1.toNat st,(0:Int),())else([],dX m st f,())):=by
 have hc:=Zj m st f hz hl
 have hc:qa ((m.1,m.2.1,m.2.2.1,m.2.2.2.1,()),(st.1,st.2.1,st.2.2.1,st.2.2.2.1,st.2.2.2.2.1,()),(f.1,f.2.1,(f.2.2.1.1,f.2.2.1.2.1,f.2.2.1.2.2.1,f.2.2.1.2.2.2.1,f.2.2.1.2.2.2.2.1,()),f.2.2.2.1,()),())=_:=hc
 unfold mh
 simp only[hc]
 by_cases h:dX m st f=0
 ·obtain⟨h1,h2,h3⟩:=NS h
  obtain⟨r,er,hr⟩:=rO h1
  have hs:=Wm f r st (Vc h3) hr (Gi h2)
  have hs:ER ((f.1,f.2.1,(f.2.2.1.1,f.2.2.1.2.1,f.2.2.1.2.2.1,f.2.2.1.2.2.2.1,f.2.2.1.2.2.2.2.1,()),f.2.2.2.1,()),(r:Int),(st.1,st.2.1,st.2.2.1,st.2.2.2.1,st.2.2.2.2.1,()),())=_:=hs
  have k0:(dX m st f != 0)=false:=by rw[h];rfl
  simp only[k0,er,hs,if_pos h,Int.toNat_natCast]
 ·have k0:(dX m st f != 0)=true:=by simpa using h
  simp only[k0,if_neg h]
theorem OU(m:ar.T)(st:ak.T)(f:ba.T):(dX m st f==0)=((bL m&&aP m st)&&jy m st f):=by
 unfold dX
 cases bL m<;>cases aP m st<;>cases jy m st f<;>rfl
theorem Vd(m:ar.T)(st:ak.T)(f:ba.T)(hz:eM m)(hl:f.2.2.2.1.length≤1099511627776):mg (m,st,f,())=some ((dX m st f==0),()):=by
 have hM:=Gg m hz
 have hM:iq ((m.1,m.2.1,m.2.2.1,m.2.2.2.1,()),())=_:=hM
 rw[OU]
 unfold mg yX
 simp only[hM]
 cases h1:bL m with
 |false=>rfl
 |true=>
  have hB:=LW m st h1
  have hB:i7 ((m.1,m.2.1,m.2.2.1,m.2.2.2.1,()),(st.1,st.2.1,st.2.2.1,st.2.2.2.1,st.2.2.2.2.1,()),())=_:=hB
  simp only[hB]
  cases h2:aP m st with
  |false=>rfl
  |true=>
   have hS:=Wp m st f h1 h2 hl
   have hS:jq ((m.1,m.2.1,m.2.2.1,m.2.2.2.1,()),(st.1,st.2.1,st.2.2.1,st.2.2.2.1,st.2.2.2.2.1,()),(f.1,f.2.1,(f.2.2.1.1,f.2.2.1.2.1,f.2.2.1.2.2.1,f.2.2.1.2.2.2.1,f.2.2.1.2.2.2.2.1,()),f.2.2.2.1,()),())=_:=hS
   simp only[hS,Bool.and_self,Bool.true_and]
theorem WR {l:List Int}(h:(a8 l).2=true):bK (a8 l).1=l∧∃b t,l=b::t∧(a8 l).1.1=aQ b:=by
 cases l with
 |nil=>cases h
 |cons b r=>
  have fin:∀st q,(o7 (b::r) b st q).2=true→bK (o7 (b::r) b st q).1=b::r∧(o7 (b::r) b st q).1.1=aQ b:=fun st q h=>by
   unfold o7 at h ⊢
   split at h
   ·split at h
    ·cases h
    ·unfold vi at h
     simp only[Bool.and_eq_true,decide_eq_true_eq]at h
     exact⟨h.2,rfl⟩
   ·unfold vi at h
    simp only[Bool.and_eq_true,decide_eq_true_eq]at h
    exact⟨h.2,rfl⟩
  have key:bK (a8 (b::r)).1=b::r∧(a8 (b::r)).1.1=aQ b:=by
   simp only[a8]at h ⊢
   split at h
   ·split at h
    ·cases h
    ·exact fin _ _ h
   ·exact fin _ _ h
  exact⟨key.1,b,r,rfl,key.2⟩
theorem WS {l:List Int}{r:Nat}{st:ak.T}(h:ct l r st=true):fz (a8 (ag l)).1 r st=l:=by
 have hf:=vO h
 obtain⟨h1,b',t',h2,h3⟩:=WR hf
 unfold ct at h
 split at h
 ·cases h
 ·rename_i b t
  simp only[Bool.and_eq_true,decide_eq_true_eq]at h
  obtain⟨h4,hd,_⟩:=h
  have hk:b'=b:=by
   unfold ag at h2
   have h4:4≤t.length+1:=h4
   obtain⟨k,hk⟩:∃k,(b::t).length-3=k+1:=⟨(b::t).length-4,by simp;omega⟩
   rw[hk,List.take_succ_cons]at h2
   cases h2
   rfl
  rw[hk]at h3
  unfold fz
  rw[h1,h3,←hd]
  exact List.take_append_drop _ _
theorem Ve {l:List Int}{r:Nat}{st:ak.T}(h:ct l r st=true):(!((a8 (ag l)).1.1 != (0:Int))||cS ak (a8 (ag l)).1.2.2.1 st)=true:=by
 unfold ct at h
 split at h
 ·cases h
 ·simp only[Bool.and_eq_true]at h
  exact h.2.2.2
theorem Vf {m:ar.T}{st:ak.T}{X:List Int}(h:(dL m st X).1=(3:Int)):aW X=((aW X).1,(0:Int),())∧ct (aW X).1 m.1.toNat st=true∧fk (cD m st) (dL m st X).2.1=true∧(dL m st X).2.1=(a8 (ag (aW X).1)).1:=by
 unfold dL at h ⊢
 split at h
 ·rename_i h0
  rw[if_pos h0]
  have key:∀z:List Int×Int×Unit,z.2.1=0→z=(z.1,(0:Int),()):=fun z hz=>by
   obtain⟨a,b,⟨⟩⟩:=z
   have hz:b=0:=hz
   rw[hz]
  have e:aW X=((aW X).1,(0:Int),()):=key _ h0
  refine⟨e, ?_⟩
  unfold kL at h ⊢
  split at h
  ·rename_i h1
   rw[Bool.and_eq_true]at h1
   simp only[h1.1,h1.2,Bool.and_self]
   exact⟨trivial,trivial,trivial⟩
  ·exact absurd h (show ¬(2:Int)=3 by decide)
 ·split at h
  ·exact absurd h (show ¬(0:Int)=3 by decide)
  ·exact absurd h (show ¬(1:Int)=3 by decide)
theorem Vg(m:ar.T)(st:ak.T)(X:List Int):(((dL m st X).1==(3:Int))=(vH m st X==(0:Int)))∧(((dL m st X).1==(0:Int))=(vH m st X==(4:Int))):=by
 unfold dL vH
 by_cases h0:(aW X).2.1=0
 ·rw[if_pos h0,if_pos h0]
  unfold kL A1
  cases h1:ct (aW X).1 m.1.toNat st with
  |true=>
   cases h2:fk (cD m st) (a8 (ag (aW X).1)).1 with
   |true=>exact⟨rfl,rfl⟩
   |false=>exact⟨rfl,rfl⟩
  |false=>
   rcases tA (aW X).1 m.1.toNat st with h|h|h<;>simp only[Bool.false_and,Bool.false_eq_true,if_false,h]<;>exact⟨rfl,rfl⟩
 ·rw[if_neg h0,if_neg h0]
  have e0:((aW X).2.1==(0:Int))=false:=by simpa using h0
  by_cases h4:(aW X).2.1=4
  ·rw[if_pos h4,h4]
   exact⟨rfl,rfl⟩
  ·have e4:((aW X).2.1==(4:Int))=false:=by simpa using h4
   rw[if_neg h4,e0,e4]
   exact⟨rfl,rfl⟩
theorem recvR_parts {m:ar.T}{st:ak.T}{X:List Int}(h0:(bU m st X).2.1=0):bL m=true∧aP m st=true∧bJ X=true:=by
 unfold bU at h0
 cases h1:bL m with
 |false=>rw[h1]at h0;exact absurd h0 (show ¬(1:Int)=0 by decide)
 |true=>
  cases h2:aP m st with
  |false=>rw[h1,h2]at h0;exact absurd h0 (show ¬(2:Int)=0 by decide)
  |true=>
   cases h3:bJ X with
   |false=>rw[h1,h2,h3]at h0;exact absurd h0 (show ¬(2:Int)=0 by decide)
   |true=>exact⟨rfl,rfl,rfl⟩
theorem Ya {m:ar.T}{st:ak.T}{y:List Int}(h1:bL m=true)(h2:aP m st=true)(h3:bJ y=true):bU m st y=(dL m st y,(0:Int),()):=by
 unfold bU
 simp only[h1,h2,h3]
theorem i_verdV(v:bI.T)(h:v.2.1.2.2.2.1.length≤1099511627776):gV (v,())=some (fc v,()):=by
 have hf:cV (v.2.1,())=some (bA v.2.1,()):=GE (v.2.1,()) h
 have hs:fR (v.2.1,((0:Int),(0:Int),((0:Int),(0:Int),(0:Int),(0:Int),(0:Int),()),([]:List Int),()),())=_:=xx _ h
 have e0:gV (v,())=match(v.1==(3:Int))with
  |true=>match cV (v.2.1,())with
   |none=>none
   |some v1=>some (v1.1,())
  |false=>match cn (v.1,(0:Int),(4:Int),())with
   |none=>none
   |some v2=>match v2.1 with
    |true=>match fR (v.2.1,((0:Int),(0:Int),((0:Int),(0:Int),(0:Int),(0:Int),(0:Int),()),([]:List Int),()),())with
     |none=>none
     |some v3=>some (v3.1,())
    |false=>some (false,()):=rfl
 rw[e0,hf,hs]
 unfold fc
 simp only[oY]
 rcases Bool.eq_false_or_eq_true (v.1==(3:Int))with h1|h1<;>rcases Bool.eq_false_or_eq_true (aY v.1 0 4)with h2|h2<;>simp only[h1,h2]<;>simp
theorem R5 {l:List Int}{u:Unit}{m:ar.T}{st:ak.T}{X D S:List Int}{v:bI.T}{c:Int}{d:cP.T}(hbig:¬(l.length:Int)>4096)(hd:ge (l,())=some (m,st,X,()))
  (i1:ci (m,st,X,())=some (v,(0:Int),())) (s1:dF (m,st,X,())=some (v,(0:Int),())) (i2:th (m,st,X,())=some (c,(0:Int),())) (s2:ti (m,st,X,())=some (c,(0:Int),()))
  (k1:dq (v,v,())=some (true,())) (hv:gV (v,())=some (true,())) (hc3:(v.1==(3:Int))=(c==(0:Int))) (hc0:(v.1==(0:Int))=(c==(4:Int)))
  (hr:v.1=(3:Int)→ij (X,())=some (D,(0:Int),())∧mh (m,st,v.2.1,())=some (D,(0:Int),())∧jQ (m,st,())=some (d,(0:Int),())∧jL (D,D,())=some (true,())∧fA (d,v.2.1,())=some (true,())∧mg (m,st,v.2.1,())=some (true,())):kJ (l,u)=some (true,()):=by
 have hb0:∀a:Int,(a != a)=false:=gW
 have hbb:∀a:Bool,(a != a)=false:=fun a=>by cases a<;>rfl
 unfold kJ vq
 simp only[decide_eq_false hbig,hd,i1,s1,i2,s2,hb0,k1,hv,Bool.not_true,hc3,hc0,hbb]
 by_cases h3:v.1=3
 ·obtain⟨r1,r2,r3,r4,r5,r6⟩:=hr h3
  have hn:(v.1 != (3:Int))=false:=by rw[h3];rfl
  have hz:((0:Int)==0)=true:=rfl
  simp only[hn,r1,r2,r3,r4,r5,r6,hz]
 ·have hn:(v.1 != (3:Int))=true:=by simpa using h3
  simp only[hn]
theorem R6(x)(hx:Wf (.pair (.list (.int .u8)) .unit) x):kJ x=some (true,()):=by
 obtain⟨(l:List Int),u⟩:=x
 by_cases hbig:(l.length:Int)>4096
 ·unfold kJ vq
  simp only[decide_eq_true hbig]
 ·have hb:=RQ hx.1
  obtain⟨m,st,X,_,hd,hz,hX⟩:=X5 (l:=l) (by omega) hb
  have i1:=tx m st X hz (by omega)
  have s1:=Gh m st X hz (by omega)
  have i2:=Zx m st X hz (by omega)
  have s2:=Zy m st X hz (by omega)
  have hb0:∀a:Int,(a != a)=false:=gW
  have hlen:=mL m st X
  have k1:=like_verdict (bU m st X).1 (by omega)
  by_cases h0:(bU m st X).2.1=0
  ·obtain⟨h1,h2,h3⟩:=recvR_parts h0
   have hR:=Ya h1 h2 h3
   have hC:A2 m st X=(vH m st X,(0:Int),()):=by
    unfold A2
    simp only[h1,h2,h3]
   have hv:=i_verdV (bU m st X).1 (by omega)
   rw[qH m st X]at hv
   rw[hR]at i1 s1 k1 hv hlen
   rw[hC]at i2 s2
   obtain⟨c3,c0⟩:=Vg m st X
   refine R5 (D:=(aW X).1) (S:=[]) (d:=cD m st) hbig hd i1 s1 i2 s2 k1 hv c3 c0 (fun hv3=> ?_)
   obtain⟨d1,d2,d3,d4⟩:=Vf hv3
   have hlen:(dL m st X).2.1.2.2.2.1.length≤32:=hlen
   have hfr:bA (dL m st X).2.1=true:=by rw[d4];exact tw (vO d2)
   have hs:jy m st (dL m st X).2.1=true:=by
    have d2':=Ve d2
    unfold jy
    rw[hfr,d3,d4,d2']
    rfl
   have hsc:dX m st (dL m st X).2.1=0:=by
    have:=OU m st (dL m st X).2.1
    rw[h1,h2,hs]at this
    simpa using this
   have q1:=F7 h3
   rw[d1]at q1
   have q2:=ZA m st (dL m st X).2.1 hz (by omega)
   rw[if_pos hsc]at q2
   have q2':fz (dL m st X).2.1 m.1.toNat st=(aW X).1:=by rw[d4];exact WS d2
   rw[q2']at q2
   have q3:=Zz m st hz h1 h2
   have hdl:=(nd (cK h3)).1
   have q4:=like_ints (aW X).1 (by omega)
   obtain⟨_,_,hq⟩:=jj m st h1 h2
   have q5:=TS (cD m st) (dL m st X).2.1 hq (by omega)
   rw[hfr,d3]at q5
   have q6:=Vd m st (dL m st X).2.1 hz (by omega)
   rw[hsc]at q6
   exact⟨q1,q2,q3,q4,q5,q6⟩
  ·have hz1:((bU m st X).2.1 != 0)=true:=by simpa using h0
   unfold kJ vq
   simp only[decide_eq_false hbig,hd,i1,s1,i2,s2,hb0,k1,Bool.not_true,hz1]
end Go.Proofs.YtckljdhdadiphaaGreatDoor

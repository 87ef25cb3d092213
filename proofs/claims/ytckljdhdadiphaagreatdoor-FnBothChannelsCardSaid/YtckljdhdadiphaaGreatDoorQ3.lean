import Derived.Test.YtckljdhdadiphaaGreatDoorQ2
namespace Go.Proofs.YtckljdhdadiphaaGreatDoor
open Go.RowKit
set_option linter.unusedVariables false
set_option linter.unusedSimpArgs false
theorem RJ {T R X O:Type}{B:X→Option (X ⊕ O)}(l:List T)(e:List R→Nat→X)(g:T→List R)(N c:Nat)(hg:∀v ∈ l,(g v).length≤c)(fin:List R→O)(hend:∀s,B (e s l.length)=some (.inr (fin s)))
  (hstep:∀s i (h:i<l.length),s.length≤N+i*c→B (e s i)=some (.inl (e (s++g l[i]) (i+1)))) (s:List R) (hs:s.length≤N):ac B (e s 0)=some (fin (s++l.flatMap g)):=by
 have key:∀(k i:Nat) (s:List R),i+k=l.length→s.length≤N+i*c→ac B (e s i)=some (fin (s++(l.drop i).flatMap g)):=by
  intro k
  induction k with
  |zero=>
   intro i s hi hs
   have:i=l.length:=by omega
   subst this
   rw[aj,hend]
   simp
  |succ k ih=>
   intro i s hi hs
   have h1:i<l.length:=by omega
   rw[aj,hstep s i h1 hs]
   simp only
   have hg1:=hg l[i] (List.getElem_mem h1)
   rw[ih (i+1) _ (by omega) (by rw[List.length_append,Nat.add_mul];omega),List.drop_eq_getElem_cons h1]
   simp only[List.flatMap_cons,List.append_assoc]
 have:=key l.length 0 s (by omega) (by omega)
 simpa using this
theorem TQ:∀(l:List Int) (n:Int) (M:Nat),(∀b ∈ l,b=0∨b=1)→0≤n→n<M→M*2^l.length≤4611686018427387904→0≤l.foldl (fun n b=>IntKind.i64.wrap (IntKind.i64.wrap (2*n)+b)) n∧l.foldl (fun n b=>IntKind.i64.wrap (IntKind.i64.wrap (2*n)+b)) n<((M*2^l.length:Nat):Int)
 | [],n,M,_,h0,h1,_=>by
   show 0≤n∧n<((M*2^0:Nat):Int)
   rw[Nat.pow_zero,Nat.mul_one]
   exact⟨h0,h1⟩
 |b::l,n,M,hb,h0,h1,hk=>by
  have e:M*2^(l.length+1)=(2*M)*2^l.length:=by rw[Nat.pow_succ,Nat.mul_comm (2^l.length) 2,←Nat.mul_assoc,Nat.mul_comm M 2]
  have hk:M*2^(l.length+1)≤4611686018427387904:=hk
  rw[e]at hk
  have hM:2*M≤(2*M)*2^l.length:=Nat.le_mul_of_pos_right _ (Nat.two_pow_pos _)
  have hb0:=hb b (by simp)
  have w1:IntKind.i64.wrap (2*n)=2*n:=by rw[ai]<;>omega
  have w2:IntKind.i64.wrap (2*n+b)=2*n+b:=by rw[ai]<;>omega
  have ih:=TQ l (2*n+b) (2*M) (fun c hc=>hb c (by simp[hc])) (by omega) (by omega) hk
  show 0≤l.foldl _ (IntKind.i64.wrap (IntKind.i64.wrap (2*n)+b))∧l.foldl _ (IntKind.i64.wrap (IntKind.i64.wrap (2*n)+b))<((M*2^(l.length+1):Nat):Int)
  rw[w1,w2,e]
  exact ih
theorem aaS(l:List Int)(h:∀b ∈ l,b=0∨b=1):∀v ∈ LO l,0≤v∧v≤255:=by
 intro v hv
 obtain⟨k,_,rfl⟩:=List.mem_map.1 hv
 have hl:(fT l k).length≤8:=by rw[tF];omega
 have hp:2^(fT l k).length≤2^8:=Nat.pow_le_pow_right (by omega) hl
 have:=TQ (fT l k) 0 1 (fun b hb=>h b (List.mem_of_mem_drop (List.mem_of_mem_take hb))) (by omega) (by omega) (by omega)
 unfold hZ
 omega
theorem S6 {f:ba.T}(h:bA f=true):aY f.1 0 3=true∧aY f.2.1 0 7=true∧gD f.1 f.2.2.2.1.length=true∧dW f.2.2.2.1=true∧((f.1 != (0:Int))=true→bq f.2.2.1=true):=by
 unfold bA at h
 simp only[Bool.and_eq_true]at h
 obtain⟨h1,h2,h3,h4,h5⟩:=h
 refine⟨h1,h2,h3,h4,fun hk=> ?_⟩
 have hk0:(f.1==(0:Int))=false:=by simpa using hk
 rw[hk0]at h5
 simp only[Bool.false_eq_true,if_false]at h5
 split at h5
 ·simp only[Bool.and_eq_true]at h5
  exact h5.1
 ·exact h5
theorem NQ {f:ba.T}(h:bA f=true):(∀v ∈ bK f,0≤v∧v≤255)∧((bK f).length:Int)=ng f.1 f.2.2.2.1.length∧(bK f).length≤50:=by
 obtain⟨h1,h2,h3,h4,h5⟩:=S6 h
 have hd:=pH h
 have k1:=bc.1 h1
 have k2:=bc.1 h2
 obtain⟨(k:Int),(q:Int),st,(d:List Int),⟨⟩⟩:=f
 simp only at h1 h2 h3 h4 h5 hd k1 k2
 have w1:IntKind.i64.wrap (k*64)=k*64:=by rw[ai]<;>omega
 have w2:IntKind.i64.wrap (q*8)=q*8:=by rw[ai]<;>omega
 have w3:IntKind.i64.wrap (k*64+q*8)=k*64+q*8:=by rw[ai]<;>omega
 have hb:∀v ∈ d,0≤v∧v≤255:=by
  unfold dW at h4
  simp only[Bool.and_eq_true,List.all_eq_true]at h4
  exact fun v hv=>bc.1 (h4.2 v hv)
 have e:bK (k,q,st,d,())=([k*64+q*8]++(if k != (0:Int)then LO (og st)else []))++(if fQ k then(d.length:Int)::d else []):=by
  unfold bK
  simp only[w1,w2,w3]
 rw[e]
 refine⟨fun v hv=> ?_, ?_, ?_⟩
 ·simp only[List.mem_append,List.mem_singleton]at hv
  rcases hv with(rfl|hv)|hv
  ·omega
  ·split at hv
   ·rename_i hk
    exact aaS _ (US st (h5 hk)) v hv
   ·cases hv
  ·split at hv
   ·rcases List.mem_cons.1 hv with rfl|hv
    ·omega
    ·exact hb v hv
   ·cases hv
 ·unfold ng
  simp only[List.length_append]
  split<;>split<;>simp[il]<;>omega
 ·simp only[List.length_append]
  split<;>split<;>simp[il]<;>omega
def fz(f:ba.T)(r:Nat)(st:ak.T):List Int:=bK f++ [((aS f.1 (bK f) r st / 65536:Nat):Int),((aS f.1 (bK f) r st / 256 % 256:Nat):Int),((aS f.1 (bK f) r st % 256:Nat):Int)]
theorem Wm(f:ba.T)(r:Nat)(st:ak.T)(hf:bA f=true)(hr:r<16777216)(hst:bq st=true):ER (f,(r:Int),st,())=some (fz f r st,()):=by
 obtain⟨h1,_,h2⟩:=NQ hf
 have hb:fX (f,())=some (bK f,()):=Wb (f,()) (by have:=pH hf;show f.2.2.2.1.length≤_;omega)
 have hc:=NG f.1 (bK f) r st (by omega) h1 hr hst
 have ht:=GH (aS f.1 (bK f) r st) (lg f.1 (bK f) r st hr)
 have e0:ER (f,(r:Int),st,())=match fX (f,())with
  |none=>none
  |some v1=>match gq (f.1,v1.1,(r:Int),st,())with
   |none=>none
   |some v2=>match kF (v2.1,())with
    |none=>none
    |some v3=>aH (v1.1.length+v3.1.length) (some ((v1.1++v3.1),())):=rfl
 rw[e0]
 simp only[hb,hc,ht]
 rw[aC (by simp;omega)]
 rfl
theorem Wn(f:ba.T)(r:Nat)(st:ak.T)(hf:bA f=true)(hr:r<16777216)(hst:bq st=true):pA (f,(r:Int),st,())=some (fz f r st,()):=by
 obtain⟨h1,_,h2⟩:=NQ hf
 have hb:bR (f,())=some (bK f,()):=Wc (f,()) (by have:=pH hf;show f.2.2.2.1.length≤_;omega)
 have hc:=NH f.1 (bK f) r st (by omega) h1 hr hst
 have hn:=lg f.1 (bK f) r st hr
 have ht:=GH (aS f.1 (bK f) r st) hn
 generalize hq:aS f.1 (bK f) r st=q at hc hn ht
 have e1: [(IntKind.i64.wrap (Int.tdiv (q:Int) (65536:Int))),(Int.tmod (IntKind.i64.wrap (Int.tdiv (q:Int) (256:Int))) (256:Int)),(Int.tmod (q:Int) (256:Int))]= [((q / 65536:Nat):Int),((q / 256 % 256:Nat):Int),((q % 256:Nat):Int)]:=by
  have a1:Int.tdiv (q:Int) 65536=((q / 65536:Nat):Int):=rfl
  have a2:Int.tdiv (q:Int) 256=((q / 256:Nat):Int):=rfl
  have a3:Int.tmod (q:Int) 256=((q % 256:Nat):Int):=rfl
  have b1:IntKind.i64.wrap ((q / 65536:Nat):Int)=((q / 65536:Nat):Int):=by rw[ai]<;>omega
  have b2:IntKind.i64.wrap ((q / 256:Nat):Int)=((q / 256:Nat):Int):=by rw[ai]<;>omega
  rw[a1,a2,a3,b1,b2]
  rfl
 have e0:pA (f,(r:Int),st,())=match bR (f,())with
  |none=>none
  |some v1=>match jb (f.1,v1.1,(r:Int),st,())with
   |none=>none
   |some v2=>aH (v1.1.length+ [(IntKind.i64.wrap (Int.tdiv v2.1 (65536:Int))),(Int.tmod (IntKind.i64.wrap (Int.tdiv v2.1 (256:Int))) (256:Int)),(Int.tmod v2.1 (256:Int))].length) (some ((v1.1++ [(IntKind.i64.wrap (Int.tdiv v2.1 (65536:Int))),(Int.tmod (IntKind.i64.wrap (Int.tdiv v2.1 (256:Int))) (256:Int)),(Int.tmod v2.1 (256:Int))]),())):=rfl
 rw[e0]
 simp only[hb,hc,e1]
 rw[aC (by simp;omega)]
 unfold fz
 rw[hq]
theorem NR {f:ba.T}{r:Nat}{st:ak.T}(hf:bA f=true)(hr:r<16777216):(∀v ∈ fz f r st,0≤v∧v≤255)∧((fz f r st).length:Int)=ng f.1 f.2.2.2.1.length+3∧(fz f r st).length≤53:=by
 obtain⟨h1,h2,h3⟩:=NQ hf
 have hn:=lg f.1 (bK f) r st hr
 unfold fz
 refine⟨fun v hv=> ?_, ?_, ?_⟩
 ·rcases List.mem_append.1 hv with hv|hv
  ·exact h1 v hv
  ·simp only[List.mem_cons,List.not_mem_nil,or_false]at hv
   rcases hv with rfl|rfl|rfl<;>omega
 ·simp only[List.length_append,List.length_cons,List.length_nil]
  omega
 ·simp only[List.length_append,List.length_cons,List.length_nil]
  omega
def im(l:List Int):List Int:=(List.replicate 8 (0:Int)++ [1])++l.flatMap (fun b=>[1,0]++bE b 8)++ [0,1]
theorem RK(l:List Int):((List.replicate 8 (0:Int)++ [1])++l.flatMap (fun b=>[1,0]++bE b 8)).length=9+10*l.length:=by
 have:(l.flatMap (fun b=>[1,0]++bE b 8)).length=10*l.length:=by
  induction l with
  |nil=>rfl
  |cons b l ih=>
   rw[List.flatMap_cons,List.length_append,ih]
   simp only[List.length_append,List.length_cons,List.length_nil,dZ]
   omega
 rw[List.length_append,this]
 simp only[List.length_append,List.length_replicate,List.length_cons,List.length_nil]
theorem xz(l:List Int):(im l).length=11+10*l.length:=by
 unfold im
 rw[List.length_append,RK]
 simp only[List.length_cons,List.length_nil]
 omega
theorem TR {l:List Int}(h:∀v ∈ l,0≤v∧v≤255):∀b ∈ im l,b=0∨b=1:=by
 intro b hb
 unfold im at hb
 simp only[List.mem_append,List.mem_replicate,List.mem_flatMap,List.mem_cons,List.not_mem_nil,or_false]at hb
 rcases hb with((⟨_,rfl⟩|rfl)|⟨v,hv,(rfl|rfl)|hb⟩)|(rfl|rfl)
 ·exact .inl rfl
 ·exact .inr rfl
 ·exact .inr rfl
 ·exact .inl rfl
 ·obtain⟨h0,h1⟩:=h v hv
  obtain⟨n,rfl⟩:=Int.eq_ofNat_of_zero_le h0
  exact Ga n (by omega) 8 b hb
 ·exact .inl rfl
 ·exact .inr rfl
theorem aaT(l:List Int)(hl:l.length≤1000):iW (l,(8:Int),())=some (im l,()):=by
 have e:=RJ (B:=dr) l (fun s i=>(l,s,(i:Int),())) (fun b=>[1,0]++bE b 8) 9 10 (fun v _=>by simp[dZ]) (fun s=>.inl (s,())) (fun s=>by simp only[dr,bu]) (fun s i h hs=>by
  have hd:List.drop i (List.take (i+1) l)= [l[i]]:=by
   rw[List.drop_take,Nat.add_sub_cancel_left,List.drop_eq_getElem_cons h]
   rfl
  have hb:=BW [l[i]] (by simp)
  have hb1:dG [l[i]]=bE l[i] 8:=by simp[dG]
  have hbd:aM l.length (some (.dat (.int .i64) ((i:Nat):Int))) (some (.dat (.int .i64) (((i+1:Nat):Int))))=some (i,i+1):=by
   unfold aM
   simp[jJ,jl]
   omega
  simp only[dr,bj h,aL h (show l.length≤1099511627776 by omega)]
  rw[aC (by simp;omega),hbd]
  simp only[ab,hd,hb,hb1]
  rw[aC (by simp[dZ];omega)]
  simp only[List.append_assoc]) (List.replicate 8 (0:Int)++ [1]) (by simp)
 have e:ac dr (l,(List.replicate (8:Int).toNat (0:Int))++ [1],(0:Int),())=_:=e
 have hlen:=RK l
 unfold iW
 simp only[e]
 rw[if_pos (show(0:Int)≤8∧(8:Int)≤8 from⟨by decide,by decide⟩),aC (by decide),aC (by decide),aC (by rw[hlen];show 9+10*l.length+2≤_;omega)]
 rfl
end Go.Proofs.YtckljdhdadiphaaGreatDoor
namespace Go.Proofs.YtckljdhdadiphaaGreatDoor
open Go.RowKit
set_option linter.unusedVariables false
set_option linter.unusedSimpArgs false
theorem RL(x:Int):∀(n:Nat) (acc:List Int),acc.length+n≤1099511627776→ac jg ((n:Int),x,acc,())=some (.inl (acc++List.replicate n x,()))
 |0,acc,_=>by
  rw[aj]
  have hd:decide (((0:Nat):Int)>0)=false:=by decide
  simp only[jg,hd,List.replicate_zero,List.append_nil]
 |n+1,acc,h=>by
  rw[aj]
  have hd:decide (((n+1:Nat):Int)>0)=true:=decide_eq_true (by omega)
  have hw:IntKind.i64.wrap (((n+1:Nat):Int)-1)=(n:Int):=by rw[ai]<;>omega
  simp only[jg,hd,hw]
  rw[aC (by show acc.length+1≤_;omega)]
  simp only
  rw[RL x n (acc++ [x]) (by simp;omega),List.append_assoc,List.singleton_append,List.replicate_succ]
theorem lD(n:Nat)(x:Int)(h:n≤1099511627776):cB ((n:Int),x,())=some (List.replicate n x,()):=by
 have e:=RL x n [] (by simp;omega)
 unfold cB
 simp only[e,List.nil_append]
def ko(l:List Int):List Int:=l.flatMap fun c=>List.replicate 8 c
theorem S7(l:List Int):(ko l).length=8*l.length:=by
 unfold ko
 induction l with
 |nil=>rfl
 |cons c l ih=>rw[List.flatMap_cons,List.length_append,ih,List.length_replicate,List.length_cons];omega
theorem XQ {l:List Int}(h:∀b ∈ l,b=0∨b=1)(hl:l.length≤8192):bJ l=true:=by
 unfold bJ
 simp only[Bool.and_eq_true,List.all_eq_true,decide_eq_true_eq]
 refine⟨by omega,fun v hv=>bc.2 ?_⟩
 rcases h v hv with rfl|rfl<;>omega
theorem L0(l w:List Int)(j:Nat)(hj:j<l.length)(hj2:j<w.length)(hw:w[j]=8):∀(k i:Nat) (acc:List Int),i+k=8→acc.length+k≤1099511627776→ac cI (l,w,acc,(j:Int),(i:Int),())=some (.inl (l,w,acc++List.replicate k l[j],(j:Int),()))
 |0,i,acc,hi,_=>by
  have hi:i=8:=by omega
  subst hi
  rw[aj]
  have hd:decide (((8:Nat):Int)<8)=false:=by decide
  simp only[cI,au hj2,ab,hw,hd,List.replicate_zero,List.append_nil]
 |k+1,i,acc,hi,h=>by
  rw[aj]
  have hd:decide ((i:Int)<8)=true:=by simp;omega
  have hn:IntKind.i64.wrap ((i:Int)+1)=((i+1:Nat):Int):=by rw[ai]<;>omega
  simp only[cI,au hj2,au hj,ab,hw,hd,hn]
  rw[aC (by show acc.length+1≤_;omega)]
  simp only
  rw[L0 l w j hj hj2 hw k (i+1) (acc++ [l[j]]) (by omega) (by simp;omega),List.append_assoc,List.singleton_append,List.replicate_succ]
theorem Wo(l:List Int)(hl:l.length≤1024):dI (l,())=some (ko l,()):=by
 have hq:cB ((l.length:Int),(8:Int),())=some (List.replicate l.length (8:Int),()):=lD l.length 8 (by omega)
 have e:=RJ (B:=cJ) l (fun s i=>(l,List.replicate l.length (8:Int),s,(i:Int),())) (fun c=>List.replicate 8 c) 0 8 (fun v _=>by simp) (fun s=>.inl (s,())) (fun s=>by simp only[cJ,bu]) (fun s i h hs=>by
  have ha:ac cI (l,List.replicate l.length (8:Int),s,(i:Int),(0:Int),())=_:=L0 l (List.replicate l.length (8:Int)) i h (by simpa using h) (by simp) 8 0 s (by omega) (by omega)
  simp only[cJ,bj h,ha,aL h (show l.length≤1099511627776 by omega)]) [] (by simp)
 have e:ac cJ (l,List.replicate l.length (8:Int),[],(0:Int),())=_:=e
 unfold dI js
 simp only[hq,e,List.nil_append]
 rfl
noncomputable def jy(m:ar.T)(st:ak.T)(f:ba.T):Bool:=(bA f&&fk (cD m st) f)&&(!(f.1 != (0:Int))||cS ak f.2.2.1 st)
theorem TS(d:cP.T)(f:ba.T)(hd:o8 d=true)(hl:f.2.2.2.1.length≤1099511627776):fA (d,f,())=some (bA f&&fk d f,()):=by
 have h1:fE (d,())=some (true,()):=by rw[←hd];exact Wh (d,())
 have h2:cV (f,())=some (bA f,()):=GE (f,()) hl
 have h3:wI (d,f,())=some (fk d f,()):=NN (d,f,())
 have e0:fA (d,f,())=match fE (d,())with
  |none=>none
  |some v1=>match v1.1 with
   |true=>match cV (f,())with
    |none=>none
    |some v2=>match v2.1 with
     |true=>match wI (d,f,())with
      |none=>none
      |some v3=>some (v3.1,())
     |false=>some (false,())
   |false=>some (false,()):=rfl
 rw[e0,h1]
 simp only[h2]
 cases bA f
 ·rfl
 ·simp only[h3,Bool.true_and]
theorem Zi(d:cP.T)(f:ba.T)(hd:o8 d=true)(hl:f.2.2.2.1.length≤1099511627776):c9 (d,f,())=some (bA f&&fk d f,()):=by
 have h1:eI (d,())=some (true,()):=by rw[←hd];exact Rz (d,())
 have h2:cO (f,())=some (bA f,()):=ND (f,()) hl
 cases hf:bA f with
 |true=>rw[NP d f hd hf hl,Bool.true_and]
 |false=>
  rw[hf]at h2
  have e0:c9 (d,f,())=match eI (d,())with
   |none=>none
   |some v1=>match v1.1 with
    |true=>match cO (f,())with
     |none=>none
     |some v2=>match v2.1 with
      |true=>_
      |false=>some (false,())
    |false=>some (false,()):=rfl
  rw[e0,h1]
  simp only[h2]
  rfl
theorem Wp(m:ar.T)(st:ak.T)(f:ba.T)(h:bL m=true)(hb:aP m st=true)(hl:f.2.2.2.1.length≤1099511627776):jq (m,st,f,())=some (jy m st f,()):=by
 obtain⟨_,hd,hq⟩:=jj m st h hb
 have hf:=TS (cD m st) f hq hl
 have e0:jq (m,st,f,())=match dv (m,st,())with
  |none=>none
  |some v1=>match fA (v1.1,f,())with
   |none=>none
   |some v2=>match v2.1 with
    |true=>match(!(f.1 != (0:Int)))with
     |true=>some (true,())
     |false=>some ((cS ak f.2.2.1 st),())
    |false=>some (false,()):=rfl
 rw[e0,hd]
 simp only[hf]
 unfold jy
 cases bA f&&fk (cD m st) f<;>cases (!(f.1 != (0:Int)))<;>simp
theorem aaU(m:ar.T)(st:ak.T)(f:ba.T)(h:bL m=true)(hb:aP m st=true)(hl:f.2.2.2.1.length≤1099511627776):lq (m,st,f,())=some (jy m st f,()):=by
 obtain⟨hd,_,hq⟩:=jj m st h hb
 have hf:=Zi (cD m st) f hq hl
 have e0:lq (m,st,f,())=match gr (m,st,())with
  |none=>none
  |some v1=>match c9 (v1.1,f,())with
   |none=>none
   |some v2=>match v2.1 with
    |true=>match(!(f.1 != (0:Int)))with
     |true=>some (true,())
     |false=>some ((cS ak f.2.2.1 st),())
    |false=>some (false,()):=rfl
 rw[e0,hd]
 simp only[hf]
 unfold jy
 cases bA f&&fk (cD m st) f<;>cases (!(f.1 != (0:Int)))<;>simp
noncomputable def dX(m:ar.T)(st:ak.T)(f:ba.T):Int:=match bL m with
 |false=>1
 |true=>match aP m st with
  |false=>2
  |true=>match jy m st f with
   |false=>5
   |true=>0
theorem Zj(m:ar.T)(st:ak.T)(f:ba.T)(hz:eM m)(hl:f.2.2.2.1.length≤1099511627776):qa (m,st,f,())=some (dX m st f,()):=by
 have hM:iq (m,())=_:=Gg m hz
 have e0:qa (m,st,f,())=match fW (m,st,())with
  |none=>none
  |some v1=>match(v1.1 != (0:Int))with
   |true=>some (v1.1,())
   |false=>match jq (m,st,f,())with
    |none=>none
    |some v2=>match(!v2.1)with
     |true=>some ((5:Int),())
     |false=>some ((0:Int),()):=rfl
 have e1:fW (m,st,())=match iq (m,())with
  |none=>none
  |some v1=>match(!v1.1)with
   |true=>some ((1:Int),())
   |false=>match i7 (m,st,())with
    |none=>none
    |some v2=>match(!v2.1)with
     |true=>some ((2:Int),())
     |false=>some ((0:Int),()):=rfl
 rw[e0,e1,hM]
 unfold dX
 rcases Bool.eq_false_or_eq_true (bL m)with h1|h1<;>simp only[h1,Bool.not_true,Bool.not_false]
 ·have hB:=LW m st h1
  simp only[hB]
  rcases Bool.eq_false_or_eq_true (aP m st)with h2|h2<;>simp only[h2,Bool.not_true,Bool.not_false]
  ·have hS:=Wp m st f h1 h2 hl
   have k0:((0:Int) != 0)=false:=rfl
   simp only[k0,hS]
   cases jy m st f<;>rfl
  ·rfl
 ·rfl
theorem Zk(m:ar.T)(st:ak.T)(f:ba.T)(hz:eM m)(hl:f.2.2.2.1.length≤1099511627776):sT (m,st,f,())=some (dX m st f,()):=by
 have hM:ix (m,())=_:=Gf m hz
 have e0:sT (m,st,f,())=match mn (m,st,())with
  |none=>none
  |some v1=>match(v1.1==(0:Int))with
   |true=>match lq (m,st,f,())with
    |none=>none
    |some v2=>match(!v2.1)with
     |true=>some ((5:Int),())
     |false=>some (v1.1,())
   |false=>some (v1.1,()):=rfl
 have e1:mn (m,st,())=match ix (m,())with
  |none=>none
  |some v1=>match(!v1.1)with
   |true=>some ((1:Int),())
   |false=>match fZ (m,st,())with
    |none=>none
    |some v2=>match(!v2.1)with
     |true=>some ((2:Int),())
     |false=>some ((0:Int),()):=rfl
 rw[e0,e1,hM]
 unfold dX
 rcases Bool.eq_false_or_eq_true (bL m)with h1|h1<;>simp only[h1,Bool.not_true,Bool.not_false]
 ·have hB:=PI m st h1
  simp only[hB]
  rcases Bool.eq_false_or_eq_true (aP m st)with h2|h2<;>simp only[h2,Bool.not_true,Bool.not_false]
  ·have hS:=aaU m st f h1 h2 hl
   have k0:((0:Int)==0)=true:=rfl
   simp only[k0,hS]
   cases jy m st f<;>rfl
  ·rfl
 ·rfl
end Go.Proofs.YtckljdhdadiphaaGreatDoor
namespace Go.Proofs.YtckljdhdadiphaaGreatDoor
open Go.RowKit
set_option linter.unusedVariables false
set_option linter.unusedSimpArgs false
theorem B6 {m:ar.T}{st:ak.T}{f:ba.T}(h:jy m st f=true):bA f=true∧fk (cD m st) f=true:=by
 unfold jy at h
 simp only[Bool.and_eq_true]at h
 exact h.1
theorem Wq {m:ar.T}{st:ak.T}{f:ba.T}(r:Nat)(hr:r<16777216)(h:bL m=true)(hb:aP m st=true)(hs:jy m st f=true):
  ∃D:Nat,(cD m st).2.2.2.1=(D:Int)∧19+10*(fz f r st).length+12≤D∧D≤1000:=by
 obtain⟨hf,ht⟩:=B6 hs
 obtain⟨_,_,hq⟩:=jj m st h hb
 obtain⟨_,hl,_⟩:=NR (st:=st) hf hr
 generalize cD m st=d at hq ht
 unfold o8 at hq
 unfold fk at ht
 simp only[Bool.and_eq_true,beq_iff_eq]at hq ht
 obtain⟨q1,q2,q3,q4,q5⟩:=hq
 obtain⟨t1,t2,t3⟩:=ht
 have hsz:=B0 q3
 have hbn:=JN d.2.1 d.2.2.1 hsz.1 hsz.2
 rw[t1,t2]at hl
 have q5:=bc.1 q5
 have hc:AW d.2.1 d.2.2.1=11+10*(ng d.2.1 d.2.2.1+3):=rfl
 rw[hc]at q5
 generalize (fz f r st).length=k at hl ⊢
 generalize ng d.2.1 d.2.2.1=bn at hl hbn q5
 have hw:IntKind.i64.wrap (11+10*(bn+3)+20)=11+10*(bn+3)+20:=by rw[ai]<;>omega
 rw[hw]at q5
 generalize d.2.2.2.1=D at q5
 have hD:(0:Int)≤D:=by omega
 obtain⟨D,rfl⟩:=Int.eq_ofNat_of_zero_le hD
 exact⟨D,rfl,by omega,by omega⟩
def mM(m:ar.T)(st:ak.T)(f:ba.T):List Int:=(List.replicate 8 (1:Int)++im (fz f m.1.toNat st))++List.replicate ((cD m st).2.2.2.1.toNat-(19+10*(fz f m.1.toNat st).length)) 1
theorem NS {m:ar.T}{st:ak.T}{f:ba.T}(h:dX m st f=0):bL m=true∧aP m st=true∧jy m st f=true:=by
 unfold dX at h
 cases h1:bL m<;>rw[h1]at h
 ·cases h
 ·cases h2:aP m st<;>rw[h2]at h
  ·cases h
  ·cases h3:jy m st f<;>rw[h3]at h
   ·cases h
   ·exact⟨rfl,rfl,rfl⟩
theorem Gi {m:ar.T}{st:ak.T}(h:aP m st=true):bq st=true:=by
 unfold aP at h
 simp only[Bool.and_eq_true]at h
 exact h.1
theorem RM {m:ar.T}{st:ak.T}{f:ba.T}(h:dX m st f=0):(mM m st f).length≤1000∧∀b ∈ mM m st f,b=0∨b=1:=by
 obtain⟨h1,h2,h3⟩:=NS h
 obtain⟨r,hr,hr2⟩:=rO h1
 obtain⟨D,hD,d1,d2⟩:=Wq r hr2 h1 h2 h3
 obtain⟨s1,_,_⟩:=NR (st:=st) (B6 h3).1 hr2
 unfold mM
 rw[hD,hr,Int.toNat_natCast,Int.toNat_natCast]
 refine⟨?_,fun b hb=> ?_⟩
 ·rw[List.length_append,List.length_append,xz,List.length_replicate,List.length_replicate]
  omega
 ·simp only[List.mem_append,List.mem_replicate]at hb
  rcases hb with(⟨_,rfl⟩|hb)|⟨_,rfl⟩
  ·exact .inr rfl
  ·exact TR s1 b hb
  ·exact .inr rfl
theorem Ig(m:ar.T)(st:ak.T)(f:ba.T)(hz:eM m)(h:dX m st f=0):kY (m,st,f,())=some (mM m st f,()):=by
 obtain⟨h1,h2,h3⟩:=NS h
 obtain⟨r,hr,hr2⟩:=rO h1
 obtain⟨D,hD,d1,d2⟩:=Wq r hr2 h1 h2 h3
 have hf:=(B6 h3).1
 obtain⟨s1,_,s2⟩:=NR (st:=st) hf hr2
 have a1:cB ((8:Int),(1:Int),())=some (List.replicate 8 (1:Int),()):=lD 8 1 (by omega)
 have a2:pA (f,m.1,st,())=some (fz f r st,()):=by rw[hr];exact Wn f r st hf hr2 (Gi h2)
 have a3:=aaT (fz f r st) (by omega)
 have hll:=xz (fz f r st)
 obtain⟨a5,_,_⟩:=jj m st h1 h2
 have hlen:(List.replicate 8 (1:Int)++im (fz f r st)).length=19+10*(fz f r st).length:=by rw[List.length_append,List.length_replicate,hll];omega
 have hw:IntKind.i64.wrap ((cD m st).2.2.2.1-(((List.replicate 8 (1:Int)++im (fz f r st)).length:Nat):Int))=((D-(19+10*(fz f r st).length):Nat):Int):=by
  rw[hlen,hD,ai]<;>omega
 have a6:=lD (D-(19+10*(fz f r st).length)) 1 (by omega)
 have e0:kY (m,st,f,())=an (
  match cB ((8:Int),(1:Int),())with
  |none=>none
  |some v1=>match pA (f,m.1,st,())with
   |none=>none
   |some v2=>match iW (v2.1,(8:Int),())with
    |none=>none
    |some v3=>aH (v1.1.length+v3.1.length) (
     match gr (m,st,())with
     |none=>none
     |some v4=>match cB ((IntKind.i64.wrap (v4.1.2.2.2.1-((v1.1++v3.1).length:Int))),(1:Int),())with
      |none=>none
      |some v5=>aH ((v1.1++v3.1).length+v5.1.length) (some (((v1.1++v3.1)++v5.1),())))):=rfl
 rw[e0]
 simp only[a1,a2,a3,a5]
 have hw':IntKind.i64.wrap ((cD m st).2.2.2.1-((List.replicate 8 (1:Int)++im (fz f r st)).length:Int))=((D-(19+10*(fz f r st).length):Nat):Int):=hw
 rw[hw',aC (by rw[List.length_replicate,hll];omega)]
 simp only[a6]
 rw[aC (by rw[hlen,List.length_replicate];omega)]
 unfold mM
 rw[hD,hr,Int.toNat_natCast,Int.toNat_natCast]
 exact rI _
theorem Zl(m:ar.T)(st:ak.T)(f:ba.T)(hz:eM m)(hl:f.2.2.2.1.length≤1099511627776):lu (m,st,f,())=some (if dX m st f=0 then(ko (mM m st f),(0:Int),())else([],dX m st f,())):=by
 have hc:=Zk m st f hz hl
 have e0:lu (m,st,f,())=match sT (m,st,f,())with
  |none=>none
  |some v1=>match(v1.1 != (0:Int))with
   |true=>some ([],v1.1,())
   |false=>match kY (m,st,f,())with
    |none=>none
    |some v2=>match dI (v2.1,())with
     |none=>none
     |some v3=>some (v3.1,(0:Int),()):=rfl
 rw[e0,hc]
 by_cases h:dX m st f=0
 ·obtain⟨c1,c2⟩:=RM h
  have hs:=Ig m st f hz h
  have hn:=Wo (mM m st f) (by omega)
  have k0:(dX m st f != 0)=false:=by rw[h];rfl
  simp only[k0,hs,hn,if_pos h]
 ·have k0:(dX m st f != 0)=true:=by simpa using h
  simp only[if_neg h,k0]
end Go.Proofs.YtckljdhdadiphaaGreatDoor
namespace Go.Proofs.YtckljdhdadiphaaGreatDoor
open Go.RowKit
set_option linter.unusedVariables false
set_option linter.unusedSimpArgs false
def B7(k:Int):Bool:=(k != 1)&&(k != 5)
def Gj(k:Int):Bool:=(k==4)||(k==6)
def iR(f:bl.T):Bool:=aY f.1 1 6&&(aY f.2.1 0 8192&&((if B7 f.1 then aY f.2.2.1 1 8192 else f.2.2.1==(0:Int))&&(if Gj f.1 then aY f.2.2.2.1 0 1 else f.2.2.2.1==(0:Int))))
theorem XR(k:Int)(h:aY k 1 6=true):lB (k,())=some (B7 k,Gj k,()):=by
 have:=bc.1 h
 have hk:k=1∨k=2∨k=3∨k=4∨k=5∨k=6:=by omega
 rcases hk with rfl|rfl|rfl|rfl|rfl|rfl<;>rfl
theorem RN(x):mC x=some (iR x.1,()):=by
 have hz:(aY x.1.2.2.2.1 0 1&&(x.1.2.2.2.1==(0:Int)))=(x.1.2.2.2.1==(0:Int)):=by
  rcases Bool.eq_false_or_eq_true (x.1.2.2.2.1==(0:Int))with h|h
  ·have h0:x.1.2.2.2.1=0:=by simpa using h
   rw[h0];rfl
  ·rw[h,Bool.and_false]
 unfold mC iR
 simp only[gS]
 rcases Bool.eq_false_or_eq_true (aY x.1.1 1 6)with h1|h1
 ·have hf:=XR x.1.1 h1
  simp only[h1,hf]
  rcases Bool.eq_false_or_eq_true (aY x.1.2.1 0 8192)with h2|h2<;>rcases Bool.eq_false_or_eq_true (B7 x.1.1)with h3|h3<;>rcases Bool.eq_false_or_eq_true (Gj x.1.1)with h4|h4<;>rcases Bool.eq_false_or_eq_true (aY x.1.2.2.1 1 8192)with h5|h5<;>rcases Bool.eq_false_or_eq_true (x.1.2.2.1==(0:Int))with h6|h6<;>rcases Bool.eq_false_or_eq_true (aY x.1.2.2.2.1 0 1)with h7|h7<;>rcases Bool.eq_false_or_eq_true (x.1.2.2.2.1==(0:Int))with h8|h8<;>simp only[h7,h8,Bool.false_and,Bool.true_and,reduceCtorEq]at hz<;>simp only[h2,h3,h4,h5,h6,h7,h8,bne]<;>rfl
 ·simp only[h1]
  rfl
def vP(l:List bl.T):Bool:=decide ((l.length:Int)≤30)&&l.all iR
theorem Ws(l:List bl.T)(hl:l.length≤1099511627776):qr (l,())=some (vP l,()):=by
 have e:=ju (B:=gM) l (fun i=>(l,(i:Int),())) iR (.inl (l,())) (.inr (false,())) (by simp only[gM,bu]) (fun i h=>by
  have hf:mC (l[i],())=some (iR l[i],()):=RN (l[i],())
  simp only[gM,bj h,aL h hl,au h,ab,hf]
  cases iR l[i]<;>simp)
 have e:ac gM (l,(0:Int),())=_:=e
 unfold qr vP
 simp only[e]
 cases l.all iR<;>simp
def chg(g:Int→Int):Nat→Nat→List Int→List Int
 |0,_,l=>l
 |k+1,i,l=>chg g k (i+1) (l.set i (g (l.getD i 0)))
theorem AZ(g:Int→Int):∀(k i:Nat) (l:List Int),(chg g k i l).length=l.length
 |0,_,_=>rfl
 |k+1,i,l=>by rw[chg,AZ g k,List.length_set]
def JQ(g:Int→Int)(l:List Int)(a b:Nat):List Int:=chg g (min b l.length-min a l.length) (min a l.length) l
end Go.Proofs.YtckljdhdadiphaaGreatDoor
namespace Go.Proofs.YtckljdhdadiphaaGreatDoor
open Go.RowKit
set_option linter.unusedVariables false
set_option linter.unusedSimpArgs false
def L1(v:Int):Int:=IntKind.i64.wrap (1-v)
def gF(f:bl.T):Int→Int:=if(f.1==(5:Int))=true then fun _=>1 else if(f.1==(6:Int))=true then fun _=>f.2.2.2.1 else L1
theorem NT(n k:Nat)(e:Int)(he:e=(k:Int))(hk:k≤n):aM n none (some (.dat (.int .i64) e))=some (0,k):=by
 subst he
 simp only[aM,jJ,jl,vk]
 rw[if_pos (by omega)]
 simp
theorem RO(n k:Nat)(e:Int)(he:e=(k:Int))(hk:k≤n):aM n (some (.dat (.int .i64) e)) none=some (k,n):=by
 subst he
 simp only[aM,jJ,jl,vk]
 rw[if_pos (by omega)]
 simp
theorem Wt(f:bl.T)(to:Nat):∀(k i:Nat) (l:List Int),l.length≤1000000→i+k=to→to≤l.length→ac dw (f,(to:Int),l,(i:Int),())=some (.inl (chg (gF f) k i l,()))
 |0,i,l,hl,h,ht=>by
  have h:i=to:=by omega
  subst h
  rw[aj]
  simp only[dw,bu]
  rfl
 |k+1,i,l,hl,h,ht=>by
  have hlt:i<l.length:=by omega
  have hlt2:i<to:=by omega
  have hget:l[i]? =some l[i]:=List.getElem?_eq_getElem hlt
  have hg:l.getD i 0=l[i]:=by rw[List.getD_eq_getElem?_getD,hget];rfl
  have ih:=Wt f to k (i+1) (l.set i (gF f l[i])) (by rw[List.length_set];exact hl) (by omega) (by rw[List.length_set];exact ht)
  rw[aj,chg,hg]
  unfold gF at ih ⊢
  rcases Bool.eq_false_or_eq_true (f.1==(5:Int))with h5|h5
  ·rw[h5]at ih ⊢
   simp only[if_true]at ih ⊢
   simp only[dw,bj hlt2,h5,au hlt,ab,Int.toNat_natCast,hget,aL hlt (show l.length≤1099511627776 by omega)]
   exact ih
  ·rcases Bool.eq_false_or_eq_true (f.1==(6:Int))with h6|h6
   ·rw[h5,h6]at ih ⊢
    simp only[if_true,Bool.false_eq_true,if_false]at ih ⊢
    simp only[dw,bj hlt2,h5,h6,au hlt,ab,Int.toNat_natCast,hget,aL hlt (show l.length≤1099511627776 by omega)]
    exact ih
   ·rw[h5,h6]at ih ⊢
    simp only[Bool.false_eq_true,if_false]at ih ⊢
    simp only[dw,bj hlt2,h5,h6,au hlt,ab,Int.toNat_natCast,hget,aL hlt (show l.length≤1099511627776 by omega)]
    exact ih
theorem GM(l:List Int)(hl:l.length≤1000000)(f:bl.T)(a b:Nat)(hab:a≤b)(hb:b≤l.length):gb (l,f,(a:Int),(b:Int),())=some (.inr (chg (gF f) (b-a) a l,())):=by
 have ho:=AS l hl
 have e:=Wt f b (b-a) a l hl (by omega) hb
 have e':ac dw ((f.1,f.2.1,f.2.2.1,f.2.2.2.1,()),(b:Int),l,(a:Int),())=_:=e
 unfold gb
 simp only[ho]
 first|simp only[e]|simp only[e']
noncomputable def lz(l:List Int)(f:bl.T):List Int:=
 if f.1=1 then JQ L1 l f.2.1.toNat (f.2.1.toNat+1)
 else if f.1=2 then JQ L1 l f.2.1.toNat (f.2.1.toNat+f.2.2.1.toNat)
 else if f.1=3 then l.take (min f.2.1.toNat l.length)++l.drop (min (f.2.1.toNat+f.2.2.1.toNat) l.length)
 else if f.1=4 then(if f.2.1.toNat≤l.length then l.take f.2.1.toNat++List.replicate f.2.2.1.toNat f.2.2.2.1++l.drop f.2.1.toNat else l).take 8192
 else if f.1=5 then JQ (fun _=>1) l f.2.1.toNat l.length
 else JQ (fun _=>f.2.2.2.1) l f.2.1.toNat (f.2.1.toNat+f.2.2.1.toNat)
theorem Ih {k a c v:Int}(h:iR (k,a,c,v,())=true):(k=1∨k=2∨k=3∨k=4∨k=5∨k=6)∧(∃n:Nat,a=(n:Int)∧n≤8192)∧(∃n:Nat,c=(n:Int)∧n≤8192∧((k=2∨k=3∨k=4∨k=6)→1≤n)):=by
 unfold iR at h
 simp only[Bool.and_eq_true]at h
 obtain⟨h1,h2,h3,_⟩:=h
 have h1:=bc.1 h1
 have h2:=bc.1 h2
 refine⟨by omega,⟨a.toNat,by omega,by omega⟩, ?_⟩
 by_cases hk:k=1∨k=5
 ·have:B7 k=false:=by rcases hk with rfl|rfl<;>rfl
  rw[this]at h3
  have h3:c=0:=by simpa using h3
  exact⟨0,by omega,by omega,fun h=>by omega⟩
 ·have:B7 k=true:=by
   unfold B7
   simp only[Bool.and_eq_true,bne_iff_ne]
   omega
  rw[this]at h3
  have h3:=bc.1 h3
  exact⟨c.toNat,by omega,by omega,fun _=>by omega⟩
theorem L2(l:List Int)(hl:l.length≤8192)(f:bl.T)(hf:iR f=true):gc (l,f,())=some (lz l f,()):=by
 obtain⟨(k:Int),(a:Int),(c:Int),(v:Int),⟨⟩⟩:=f
 obtain⟨hk,⟨a,rfl,ha⟩,⟨c,rfl,hc,hc1⟩⟩:=Ih hf
 have w1:IntKind.i64.wrap ((a:Int)+1)=((a+1:Nat):Int):=by rw[ai]<;>omega
 have w2:IntKind.i64.wrap ((a:Int)+(c:Int))=((a+c:Nat):Int):=by rw[ai]<;>omega
 have m1:(if(a:Int)<(l.length:Int)then(a:Int)else(l.length:Int))=((min a l.length:Nat):Int):=by split<;>omega
 have m2:(if((a+c:Nat):Int)<(l.length:Int)then((a+c:Nat):Int)else(l.length:Int))=((min (a+c) l.length:Nat):Int):=by split<;>omega
 have m3:(if((a+1:Nat):Int)<(l.length:Int)then((a+1:Nat):Int)else(l.length:Int))=((min (a+1) l.length:Nat):Int):=by split<;>omega
 have cut:∀z:List Int,aM z.length none (some (.dat (.int .i64) (if(8192:Int)<(z.length:Int)then(8192:Int)else(z.length:Int))))=some (0,min z.length 8192):=fun z=>NT _ _ _ (by split<;>omega) (Nat.min_le_left _ _)
 have cutT:∀z:List Int,List.drop 0 (List.take (min z.length 8192) z)=z.take 8192:=fun z=>by
  rw[List.drop_zero]
  by_cases hz:z.length≤8192
  ·rw[Nat.min_eq_left hz,List.take_of_length_le (Nat.le_refl _),List.take_of_length_le hz]
  ·rw[Nat.min_eq_right (by omega)]
 have b1:aM l.length none (some (.dat (.int .i64) ((min a l.length:Nat):Int)))=some (0,min a l.length):=NT _ _ _ rfl (Nat.min_le_right _ _)
 have b2:aM l.length (some (.dat (.int .i64) ((min (a+c) l.length:Nat):Int))) none=some (min (a+c) l.length,l.length):=RO _ _ _ rfl (Nat.min_le_right _ _)
 have b3:aM l.length (some (.dat (.int .i64) ((min a l.length:Nat):Int))) none=some (min a l.length,l.length):=RO _ _ _ rfl (Nat.min_le_right _ _)
 have o0:=AS l (by omega)
 have o1:=AS (l.take (min a l.length)) (by rw[List.length_take];omega)
 have key:kI (l,(k,(a:Int),(c:Int),v,()),(l.length:Int),((min a l.length:Nat):Int),((min (a+c) l.length:Nat):Int),())=some (.inr (lz l (k,(a:Int),(c:Int),v,()),())):=by
  unfold kI lz
  rcases hk with rfl|rfl|rfl|rfl|rfl|rfl
  ·have h:=GM l (by omega) ((1:Int),(a:Int),(c:Int),v,()) (min a l.length) (min (a+1) l.length) (by omega) (by omega)
   simp only[show((1:Int)==1)=true from rfl,w1,m3,h,if_true,Int.toNat_natCast]
   rfl
  ·have h:=GM l (by omega) ((2:Int),(a:Int),(c:Int),v,()) (min a l.length) (min (a+c) l.length) (by omega) (by omega)
   simp only[show((2:Int)==1)=false from rfl,show((2:Int)==5)=false from rfl,show((2:Int)==3)=false from rfl,show((2:Int)==4)=false from rfl,h,Int.toNat_natCast]
   rfl
  ·simp only[show((3:Int)==1)=false from rfl,show((3:Int)==5)=false from rfl,show((3:Int)==3)=true from rfl,b1,b2,ab,List.drop_zero,List.take_length,o1,Int.toNat_natCast]
   rw[aC (by rw[List.length_take,List.length_drop];omega)]
   rfl
  ·simp only[show((4:Int)==1)=false from rfl,show((4:Int)==5)=false from rfl,show((4:Int)==3)=false from rfl,show((4:Int)==4)=true from rfl,Int.toNat_natCast]
   by_cases hal:a≤l.length
   ·have hd:decide ((a:Int)>(l.length:Int))=false:=decide_eq_false (by omega)
    have hr:=lD c v (by omega)
    simp only[hd,b1,b3,ab,List.drop_zero,List.take_length,o1,hr]
    rw[aC (by rw[List.length_take,List.length_replicate];omega),aC (by rw[List.length_append,List.length_take,List.length_replicate,List.length_drop];omega)]
    simp only[cut,cutT]
    rw[if_pos hal,Nat.min_eq_left hal]
    rfl
   ·have hd:decide ((a:Int)>(l.length:Int))=true:=decide_eq_true (by omega)
    simp only[hd,o0,if_neg hal]
    rw[List.take_of_length_le hl]
    rfl
  ·have h:=GM l (by omega) ((5:Int),(a:Int),(c:Int),v,()) (min a l.length) l.length (by omega) (Nat.le_refl _)
   simp only[show((5:Int)==1)=false from rfl,show((5:Int)==5)=true from rfl,h,Int.toNat_natCast]
   show _=some (Sum.inr (chg _ (min l.length l.length-min a l.length) (min a l.length) l,()))
   rw[Nat.min_self]
   rfl
  ·have h:=GM l (by omega) ((6:Int),(a:Int),(c:Int),v,()) (min a l.length) (min (a+c) l.length) (by omega) (by omega)
   simp only[show((6:Int)==1)=false from rfl,show((6:Int)==5)=false from rfl,show((6:Int)==3)=false from rfl,show((6:Int)==4)=false from rfl,h,Int.toNat_natCast]
   rfl
 unfold gc
 simp only[w2,m1,m2,key]
 exact rI _
theorem Gk(l:List Int)(hl:l.length≤8192)(f:bl.T):(lz l f).length≤8192:=by
 unfold lz JQ
 split
 ·rw[AZ];exact hl
 ·split
  ·rw[AZ];exact hl
  ·split
   ·rw[List.length_append,List.length_take,List.length_drop]
    omega
   ·split
    ·rw[List.length_take];exact Nat.min_le_left _ _
    ·split
     ·rw[AZ];exact hl
     ·rw[AZ];exact hl
noncomputable def GN(l:List Int)(s:List bl.T):List Int:=s.foldl lz l
theorem U1(s:List bl.T)(l:List Int)(hl:l.length≤8192):(GN l s).length≤8192:=pG (P:=fun z:List Int=>z.length≤8192) s l (fun z f _ hz=>Gk z hz f) hl
theorem RP {s:List bl.T}(h:vP s=true):s.length≤30∧∀f ∈ s,iR f=true:=by
 unfold vP at h
 simp only[Bool.and_eq_true,decide_eq_true_eq,List.all_eq_true]at h
 exact⟨by omega,h.2⟩
theorem XS(l:List Int)(hl:l.length≤8192)(s:List bl.T)(hs:vP s=true):qt (l,s,())=some (GN l s,()):=by
 obtain⟨h1,h2⟩:=RP hs
 have hcl:=AS l (by omega)
 have e:=o9 (B:=gN) s (fun z i=>(s,z,(i:Int),())) lz (fun z=>.inl (z,())) (fun z=>z.length≤8192) (fun z f _ hz=>Gk z hz f) (fun z _=>by simp only[gN,bu]) (fun z i h hz=>by
  have hf:=L2 z hz s[i] (h2 _ (List.getElem_mem h))
  have hf':gc (z,(s[i].1,s[i].2.1,s[i].2.2.1,s[i].2.2.2.1,()),())=_:=hf
  simp only[gN,bj h,aL h (show s.length≤1099511627776 by omega),au h,ab]
  first|simp only[hf]|simp only[hf']) s.length 0 l (by omega) hl
 have e:ac gN (s,l,(0:Int),())=_:=e
 unfold qt GN
 simp only[hcl,e,List.drop_zero]
end Go.Proofs.YtckljdhdadiphaaGreatDoor
namespace Go.Proofs.YtckljdhdadiphaaGreatDoor
open Go.RowKit
set_option linter.unusedVariables false
set_option linter.unusedSimpArgs false
theorem Zm {m:ar.T}{st:ak.T}(h:bL m=true)(hb:aP m st=true):∃(a:Nat) (ha:a<m.2.2.1.length),st.2.1=(a:Int)∧0≤st.2.2.1∧st.2.2.1<m.2.2.1[a].1∧0≤st.2.2.2.1∧st.2.2.2.1<m.2.2.1[a].2.1∧(1≤m.2.2.1[a].1∧m.2.2.1[a].1≤16)∧(1≤m.2.2.1[a].2.1∧m.2.2.1[a].2.1≤256):=by
 obtain⟨_,hn,hm,hs,_⟩:=jW h
 have hg:=(gk hm).2
 unfold aP at hb
 rw[Bool.and_eq_true]at hb
 obtain⟨a,b,c,d,ea,eb,ec,ed,ha,hb',hc',hd⟩:=B5 hb.1
 have hb2:=hb.2
 rw[ea,eb,ec,ed]at hb2
 rw[Int.toNat_natCast]at hb2
 by_cases hal:a<m.2.2.1.length
 ·simp only[List.getElem?_eq_getElem hal,Bool.and_eq_true,decide_eq_true_eq]at hb2
  have hgi:=hg _ (List.getElem_mem hal)
  obtain⟨h1,h2,_⟩:=hb2
  exact⟨a,hal,ea,by rw[eb];exact Int.natCast_nonneg _,by rw[eb];exact h1,by rw[ec];exact Int.natCast_nonneg _,by rw[ec];exact h2,⟨hgi.1.1,Int.le_trans hgi.1.2 (by decide)⟩,⟨hgi.2.1,Int.le_trans hgi.2.2 (by decide)⟩⟩
 ·simp only[List.getElem?_eq_none (Nat.not_lt.1 hal)]at hb2
  cases hb2
end Go.Proofs.YtckljdhdadiphaaGreatDoor
namespace Go.Proofs.YtckljdhdadiphaaGreatDoor
open Go.RowKit
set_option linter.unusedVariables false
set_option linter.unusedSimpArgs false
def qI(m:ar.T)(st:ak.T)(fill req:Int):ba.T:=((cD m st).2.1,req,(if((cD m st).2.1 != (0:Int))=true then st else iY),List.replicate (cD m st).2.2.1.toNat fill,())
theorem OD {d:cP.T}(h:o8 d=true):∃k:Nat,d.2.2.1=(k:Int)∧k≤1000:=by
 unfold o8 at h
 simp only[Bool.and_eq_true]at h
 have hsz:=B0 h.2.2.1
 obtain⟨z0,z1⟩:=hsz
 have e:((d.2.2.1.toNat:Nat):Int)=d.2.2.1:=Int.toNat_of_nonneg z0
 have h2:((d.2.2.1.toNat:Nat):Int)≤1000:=by rw[e];exact z1
 exact⟨d.2.2.1.toNat,e.symm,by omega⟩
theorem U2 {m:ar.T}{st:ak.T}(h:bL m=true)(hb:aP m st=true)(fill req:Int):(qI m st fill req).2.2.2.1.length≤1000:=by
 obtain⟨_,_,hq⟩:=jj m st h hb
 obtain⟨k,hk,hk2⟩:=OD hq
 show(List.replicate (cD m st).2.2.1.toNat fill).length≤1000
 rw[hk,List.length_replicate]
 omega
theorem XT(m:ar.T)(st:ak.T)(fill req:Int)(h:bL m=true)(hb:aP m st=true):aw (m,st,fill,req,())=some (qI m st fill req,()):=by
 obtain⟨hd,_,hq⟩:=jj m st h hb
 obtain⟨k,hk,hk2⟩:=OD hq
 have he:=lD k fill (by omega)
 have hst:∀z:Int,dj (z,())=some ((z != (0:Int)),()):=fun z=>rfl
 unfold aw qI
 simp only[hd,hk,he,hst,Int.toNat_natCast,rI,cE]
 cases ((cD m st).2.1 != (0:Int))<;>rfl
theorem Zn(m:ar.T)(st:ak.T)(hz:eM m):fW (m,st,())=some ((match bL m with|false=>1|true=>match aP m st with|false=>2|true=>0:Int),()):=by
 have hM:iq (m,())=_:=Gg m hz
 have e1:fW (m,st,())=match iq (m,())with
  |none=>none
  |some v1=>match(!v1.1)with
   |true=>some ((1:Int),())
   |false=>match i7 (m,st,())with
    |none=>none
    |some v2=>match(!v2.1)with
     |true=>some ((2:Int),())
     |false=>some ((0:Int),()):=rfl
 rw[e1,hM]
 rcases Bool.eq_false_or_eq_true (bL m)with h1|h1<;>simp only[h1,Bool.not_true,Bool.not_false]
 have hB:=LW m st h1
 simp only[hB]
 rcases Bool.eq_false_or_eq_true (aP m st)with h2|h2<;>simp only[h2,Bool.not_true,Bool.not_false]
end Go.Proofs.YtckljdhdadiphaaGreatDoor
namespace Go.Proofs.YtckljdhdadiphaaGreatDoor
open Go.RowKit
set_option linter.unusedVariables false
set_option linter.unusedSimpArgs false
theorem XU {l:List Int}(h:bJ l=true):∀v ∈ l,v=0∨v=1:=by
 intro v hv
 obtain⟨i,hi,rfl⟩:=List.getElem_of_mem hv
 exact rE h hi
theorem Zo {l:List Int}(h1:l.length≤8192)(h2:∀v ∈ l,v=0∨v=1):bJ l=true:=TA h1 fun i hi=>h2 _ (List.getElem_mem hi)
theorem Wu {g:Int→Int}(hg:∀v,v=0∨v=1→g v=0∨g v=1):∀(k i:Nat) (l:List Int),(∀v ∈ l,v=0∨v=1)→i+k≤l.length→∀v ∈ chg g k i l,v=0∨v=1
 |0,i,l,h,_=>h
 |k+1,i,l,h,hi=>by
  rw[chg]
  refine Wu hg k (i+1) _ (fun v hv=> ?_) (by rw[List.length_set];omega)
  rcases List.mem_or_eq_of_mem_set hv with hv|rfl
  ·exact h v hv
  ·refine hg _ (h _ ?_)
   have hlt:i<l.length:=by omega
   rw[List.getD_eq_getElem?_getD,List.getElem?_eq_getElem hlt]
   exact List.getElem_mem hlt
theorem GO {g:Int→Int}(hg:∀v,v=0∨v=1→g v=0∨g v=1){l:List Int}(h:∀v ∈ l,v=0∨v=1)(a b:Nat):∀v ∈ JQ g l a b,v=0∨v=1:=by
 unfold JQ
 by_cases hab:min a l.length≤min b l.length
 ·exact Wu hg _ _ l h (by omega)
 ·have:min b l.length-min a l.length=0:=by omega
  rw[this]
  exact h
theorem TT:∀v,v=0∨v=1→L1 v=0∨L1 v=1:=by
 rintro v (rfl|rfl)
 ·exact .inr (by decide)
 ·exact .inl (by decide)
theorem Wv {k a c v:Int}(h:iR (k,a,c,v,())=true):(k=4∨k=6)→v=0∨v=1:=by
 intro hk
 unfold iR at h
 simp only[Bool.and_eq_true]at h
 have h4:=h.2.2.2
 have hv:Gj k=true:=by
  unfold Gj
  rcases hk with rfl|rfl<;>rfl
 rw[hv]at h4
 have:=bc.1 h4
 omega
theorem U3 {l:List Int}{f:bl.T}(h:bJ l=true)(hf:iR f=true):bJ (lz l f)=true:=by
 have h01:=XU h
 refine Zo (Gk l (cK h) f) ?_
 obtain⟨(k:Int),(a:Int),(c:Int),(v:Int),⟨⟩⟩:=f
 obtain⟨hk,_,_⟩:=Ih hf
 have hv:=Wv hf
 unfold lz
 split
 ·exact GO TT h01 _ _
 ·split
  ·exact GO TT h01 _ _
  ·split
   ·intro u hu
    rcases List.mem_append.1 hu with hu|hu
    ·exact h01 u (List.mem_of_mem_take hu)
    ·exact h01 u (List.mem_of_mem_drop hu)
   ·split
    ·rename_i h4
     have h4:k=4:=h4
     intro u hu
     have hu:=List.mem_of_mem_take hu
     split at hu
     ·rcases List.mem_append.1 hu with hu|hu
      ·rcases List.mem_append.1 hu with hu|hu
       ·exact h01 u (List.mem_of_mem_take hu)
       ·rw[List.mem_replicate]at hu
        rw[hu.2]
        exact hv (.inl h4)
      ·exact h01 u (List.mem_of_mem_drop hu)
     ·exact h01 u hu
    ·split
     ·exact GO (fun _ _=>.inr rfl) h01 _ _
     ·rename_i n1 n2 n3 n4 n5
      have h6:k=6:=by
       have n1:¬k=1:=n1
       have n2:¬k=2:=n2
       have n3:¬k=3:=n3
       have n4:¬k=4:=n4
       have n5:¬k=5:=n5
       omega
      exact GO (fun _ _=>hv (.inr h6)) h01 _ _
end Go.Proofs.YtckljdhdadiphaaGreatDoor

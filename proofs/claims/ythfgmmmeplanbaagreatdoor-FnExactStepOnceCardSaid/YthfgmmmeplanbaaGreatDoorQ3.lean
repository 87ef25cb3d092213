import Derived.Test.YthfgmmmeplanbaaGreatDoorQ2
namespace Go.Proofs.YthfgmmmeplanbaaGreatDoor
open Go.RowKit
set_option linter.unusedVariables false
set_option linter.unusedSimpArgs false
theorem Js {T R X O:Type}{B:X→Option (X ⊕ O)}(l:List T)(e:List R→Nat→X)(g:T→List R)(N c:Nat)(hg:∀v ∈ l,(g v).length≤c)(fin:List R→O)(hend:∀s,B (e s l.length)=some (.inr (fin s)))
  (hstep:∀s i (h:i<l.length),s.length≤N+i*c→B (e s i)=some (.inl (e (s++g l[i]) (i+1)))) (s:List R) (hs:s.length≤N):ac B (e s 0)=some (fin (s++l.flatMap g)):=by
 have key:∀(k i:Nat) (s:List R),i+k=l.length→s.length≤N+i*c→ac B (e s i)=some (fin (s++(l.drop i).flatMap g)):=by
  intro k
  induction k with
  |zero=>
   intro i s hi hs
   have:i=l.length:=by omega
   subst this
   rw[an,hend]
   simp
  |succ k ih=>
   intro i s hi hs
   have h1:i<l.length:=by omega
   rw[an,hstep s i h1 hs]
   simp only
   have hg1:=hg l[i] (List.getElem_mem h1)
   rw[ih (i+1) _ (by omega) (by rw[List.length_append,Nat.add_mul];omega),List.drop_eq_getElem_cons h1]
   simp only[List.flatMap_cons,List.append_assoc]
 have:=key l.length 0 s (by omega) (by omega)
 simpa using this
theorem RP:∀(l:List Int) (n:Int) (M:Nat),(∀b ∈ l,b=0∨b=1)→0≤n→n<M→M*2^l.length≤4611686018427387904→0≤l.foldl (fun n b=>IntKind.i64.wrap (IntKind.i64.wrap (2*n)+b)) n∧l.foldl (fun n b=>IntKind.i64.wrap (IntKind.i64.wrap (2*n)+b)) n<((M*2^l.length:Nat):Int)
 | [],n,M,_,h0,h1,_=>by
   show 0≤n∧n<((M*2^0:Nat):Int)
   rw[Nat.pow_zero,Nat.mul_one]
   exact⟨h0,h1⟩
 |b::l,n,M,hb,h0,h1,hk=>by
  have e:M*2^(l.length+1)=(2*M)*2^l.length:=by rw[Nat.pow_succ,Nat.mul_comm (2^l.length) 2,←Nat.mul_assoc,Nat.mul_comm M 2]
  have hk:M*2^(l.length+1)≤4611686018427387904:=hk
  rw[e]at hk
  have hM:2*M≤(2*M)*2^l.length:=Nat.le_mul_of_pos_right _ (Nat.two_pow_pos _)
  have hb0:=hb b (by simp)
  have w1:IntKind.i64.wrap (2*n)=2*n:=by rw[wrap_i64]<;>omega
  have w2:IntKind.i64.wrap (2*n+b)=2*n+b:=by rw[wrap_i64]<;>omega
  have ih:=RP l (2*n+b) (2*M) (fun c hc=>hb c (by simp[hc])) (by omega) (by omega) hk
  show 0≤l.foldl _ (IntKind.i64.wrap (IntKind.i64.wrap (2*n)+b))∧l.foldl _ (IntKind.i64.wrap (IntKind.i64.wrap (2*n)+b))<((M*2^(l.length+1):Nat):Int)
  rw[w1,w2,e]
  exact ih
theorem XF(l:List Int)(h:∀b ∈ l,b=0∨b=1):∀v ∈ Jg l,0≤v∧v≤255:=by
 intro v hv
 obtain⟨k,_,rfl⟩:=List.mem_map.1 hv
 have hl:(eY l k).length≤8:=by rw[qv];omega
 have hp:2^(eY l k).length≤2^8:=Nat.pow_le_pow_right (by omega) hl
 have:=RP (eY l k) 0 1 (fun b hb=>h b (List.mem_of_mem_drop (List.mem_of_mem_take hb))) (by omega) (by omega) (by omega)
 unfold gi
 omega
theorem QV {f:aG.T}(h:br f=true):aI f.1 0 3=true∧aI f.2.1 0 7=true∧ij f.1 f.2.2.2.1.length=true∧ii f.2.2.2.1=true∧((f.1 != (0:Int))=true→bU f.2.2.1=true):=by
 unfold br at h
 simp only[Bool.and_eq_true]at h
 obtain⟨h1,h2,h3,h4,h5⟩:=h
 refine⟨h1,h2,h3,h4,fun hk=> ?_⟩
 have hk0:(f.1==(0:Int))=false:=by simpa using hk
 rw[hk0]at h5
 simp only[Bool.false_eq_true,if_false]at h5
 split at h5
 ·simp only[Bool.and_eq_true]at h5
  exact h5.1
 ·exact h5
theorem K2 {f:aG.T}(h:br f=true):(∀v ∈ bm f,0≤v∧v≤255)∧((bm f).length:Int)=jQ f.1 f.2.2.2.1.length∧(bm f).length≤50:=by
 obtain⟨h1,h2,h3,h4,h5⟩:=QV h
 have hd:=qm h
 have k1:=bi.1 h1
 have k2:=bi.1 h2
 obtain⟨(k:Int),(q:Int),st,(d:List Int),⟨⟩⟩:=f
 simp only at h1 h2 h3 h4 h5 hd k1 k2
 have w1:IntKind.i64.wrap (k*64)=k*64:=by rw[wrap_i64]<;>omega
 have w2:IntKind.i64.wrap (q*8)=q*8:=by rw[wrap_i64]<;>omega
 have w3:IntKind.i64.wrap (k*64+q*8)=k*64+q*8:=by rw[wrap_i64]<;>omega
 have hb:∀v ∈ d,0≤v∧v≤255:=by
  unfold ii at h4
  simp only[Bool.and_eq_true,List.all_eq_true]at h4
  exact fun v hv=>bi.1 (h4.2 v hv)
 have e:bm (k,q,st,d,())=([k*64+q*8]++(if k != (0:Int)then Jg (mv st)else []))++(if gO k then(d.length:Int)::d else []):=by
  unfold bm
  simp only[w1,w2,w3]
 rw[e]
 refine⟨fun v hv=> ?_, ?_, ?_⟩
 ·simp only[List.mem_append,List.mem_singleton]at hv
  rcases hv with(rfl|hv)|hv
  ·omega
  ·split at hv
   ·rename_i hk
    exact XF _ (SN st (h5 hk)) v hv
   ·cases hv
  ·split at hv
   ·rcases List.mem_cons.1 hv with rfl|hv
    ·omega
    ·exact hb v hv
   ·cases hv
 ·unfold jQ
  simp only[List.length_append]
  split<;>split<;>simp[gp]<;>omega
 ·simp only[List.length_append]
  split<;>split<;>simp[gp]<;>omega
def cP(f:aG.T)(r:Nat)(st:ab.T):List Int:=bm f++ [((bl f.1 (bm f) r st / 65536:Nat):Int),((bl f.1 (bm f) r st / 256 % 256:Nat):Int),((bl f.1 (bm f) r st % 256:Nat):Int)]
theorem Us(f:aG.T)(r:Nat)(st:ab.T)(hf:br f=true)(hr:r<16777216)(hst:bU st=true):xt (f,(r:Int),st,())=some (cP f r st,()):=by
 obtain⟨h1,_,h2⟩:=K2 hf
 have hb:ff (f,())=some (bm f,()):=Uf (f,()) (by have:=qm hf;show f.2.2.2.1.length≤_;omega)
 have hc:=RD f.1 (bm f) r st (by omega) h1 hr hst
 have ht:=KU (bl f.1 (bm f) r st) (oL f.1 (bm f) r st hr)
 have e0:xt (f,(r:Int),st,())=match ff (f,())with
  |none=>none
  |some v1=>match gC (f.1,v1.1,(r:Int),st,())with
   |none=>none
   |some v2=>match jt (v2.1,())with
    |none=>none
    |some v3=>a7 (v1.1.length+v3.1.length) (some ((v1.1++v3.1),())):=rfl
 rw[e0]
 simp only[hb,hc,ht]
 rw[aE (by simp;omega)]
 rfl
theorem Ut(f:aG.T)(r:Nat)(st:ab.T)(hf:br f=true)(hr:r<16777216)(hst:bU st=true):nn (f,(r:Int),st,())=some (cP f r st,()):=by
 obtain⟨h1,_,h2⟩:=K2 hf
 have hb:bp (f,())=some (bm f,()):=Ug (f,()) (by have:=qm hf;show f.2.2.2.1.length≤_;omega)
 have hc:=RE f.1 (bm f) r st (by omega) h1 hr hst
 have hn:=oL f.1 (bm f) r st hr
 have ht:=KU (bl f.1 (bm f) r st) hn
 generalize hq:bl f.1 (bm f) r st=q at hc hn ht
 have e1: [(IntKind.i64.wrap (Int.tdiv (q:Int) (65536:Int))),(Int.tmod (IntKind.i64.wrap (Int.tdiv (q:Int) (256:Int))) (256:Int)),(Int.tmod (q:Int) (256:Int))]= [((q / 65536:Nat):Int),((q / 256 % 256:Nat):Int),((q % 256:Nat):Int)]:=by
  have a1:Int.tdiv (q:Int) 65536=((q / 65536:Nat):Int):=rfl
  have a2:Int.tdiv (q:Int) 256=((q / 256:Nat):Int):=rfl
  have a3:Int.tmod (q:Int) 256=((q % 256:Nat):Int):=rfl
  have b1:IntKind.i64.wrap ((q / 65536:Nat):Int)=((q / 65536:Nat):Int):=by rw[wrap_i64]<;>omega
  have b2:IntKind.i64.wrap ((q / 256:Nat):Int)=((q / 256:Nat):Int):=by rw[wrap_i64]<;>omega
  rw[a1,a2,a3,b1,b2]
  rfl
 have e0:nn (f,(r:Int),st,())=match bp (f,())with
  |none=>none
  |some v1=>match iV (f.1,v1.1,(r:Int),st,())with
   |none=>none
   |some v2=>a7 (v1.1.length+ [(IntKind.i64.wrap (Int.tdiv v2.1 (65536:Int))),(Int.tmod (IntKind.i64.wrap (Int.tdiv v2.1 (256:Int))) (256:Int)),(Int.tmod v2.1 (256:Int))].length) (some ((v1.1++ [(IntKind.i64.wrap (Int.tdiv v2.1 (65536:Int))),(Int.tmod (IntKind.i64.wrap (Int.tdiv v2.1 (256:Int))) (256:Int)),(Int.tmod v2.1 (256:Int))]),())):=rfl
 rw[e0]
 simp only[hb,hc,e1]
 rw[aE (by simp;omega)]
 unfold cP
 rw[hq]
theorem Dp {f:aG.T}{r:Nat}{st:ab.T}(hf:br f=true)(hr:r<16777216):(∀v ∈ cP f r st,0≤v∧v≤255)∧((cP f r st).length:Int)=jQ f.1 f.2.2.2.1.length+3∧(cP f r st).length≤53:=by
 obtain⟨h1,h2,h3⟩:=K2 hf
 have hn:=oL f.1 (bm f) r st hr
 unfold cP
 refine⟨fun v hv=> ?_, ?_, ?_⟩
 ·rcases List.mem_append.1 hv with hv|hv
  ·exact h1 v hv
  ·simp only[List.mem_cons,List.not_mem_nil,or_false]at hv
   rcases hv with rfl|rfl|rfl<;>omega
 ·simp only[List.length_append,List.length_cons,List.length_nil]
  omega
 ·simp only[List.length_append,List.length_cons,List.length_nil]
  omega
def kF(l:List Int):List Int:=(List.replicate 8 (0:Int)++ [1])++l.flatMap (fun b=>[1,0]++bk b 8)++ [0,1]
theorem Gy(l:List Int):((List.replicate 8 (0:Int)++ [1])++l.flatMap (fun b=>[1,0]++bk b 8)).length=9+10*l.length:=by
 have:(l.flatMap (fun b=>[1,0]++bk b 8)).length=10*l.length:=by
  induction l with
  |nil=>rfl
  |cons b l ih=>
   rw[List.flatMap_cons,List.length_append,ih]
   simp only[List.length_append,List.length_cons,List.length_nil,eS]
   omega
 rw[List.length_append,this]
 simp only[List.length_append,List.length_replicate,List.length_cons,List.length_nil]
theorem Gz(l:List Int):(kF l).length=11+10*l.length:=by
 unfold kF
 rw[List.length_append,Gy]
 simp only[List.length_cons,List.length_nil]
 omega
theorem WE {l:List Int}(h:∀v ∈ l,0≤v∧v≤255):∀b ∈ kF l,b=0∨b=1:=by
 intro b hb
 unfold kF at hb
 simp only[List.mem_append,List.mem_replicate,List.mem_flatMap,List.mem_cons,List.not_mem_nil,or_false]at hb
 rcases hb with((⟨_,rfl⟩|rfl)|⟨v,hv,(rfl|rfl)|hb⟩)|(rfl|rfl)
 ·exact .inl rfl
 ·exact .inr rfl
 ·exact .inr rfl
 ·exact .inl rfl
 ·obtain⟨h0,h1⟩:=h v hv
  obtain⟨n,rfl⟩:=Int.eq_ofNat_of_zero_le h0
  exact Je n (by omega) 8 b hb
 ·exact .inl rfl
 ·exact .inr rfl
theorem XG(l:List Int)(hl:l.length≤1000):qh (l,(8:Int),())=some (kF l,()):=by
 have e:=Js (B:=gD) l (fun s i=>(s,l,(l.length:Int),(i:Int),())) (fun b=>[1,0]++bk b 8) 9 10 (fun v _=>by simp[eS]) (fun s=>.inl (s,())) (fun s=>by simp only[gD,aK]) (fun s i h hs=>by
  have ha:=m7 (s++ [1,0]) l[i] 8 (by omega) (by simp;omega)
  have ha:bq (s++ [1,0],l[i],(8:Int),())=_:=ha
  simp only[gD,aM h,av h (show l.length≤1099511627776 by omega),am h,aa]
  rw[aE (by simp;omega)]
  simp only[ha,List.append_assoc]) (List.replicate 8 (0:Int)++ [1]) (by simp)
 have e:ac gD ((List.replicate (8:Int).toNat (0:Int))++ [1],l,(l.length:Int),(0:Int),())=_:=e
 have hlen:=Gy l
 unfold qh
 simp only[e]
 rw[if_pos (show(0:Int)≤8∧(8:Int)≤8 from⟨by decide,by decide⟩),aE (by decide),aE (by decide),aE (by rw[hlen];show 9+10*l.length+2≤_;omega)]
 rfl
theorem XH(l:List Int)(hl:l.length≤1000):n9 (l,(8:Int),())=some (kF l,()):=by
 have e:=Js (B:=fQ) l (fun s i=>(l,s,(i:Int),())) (fun b=>[1,0]++bk b 8) 9 10 (fun v _=>by simp[eS]) (fun s=>.inl (s,())) (fun s=>by simp only[fQ,aK]) (fun s i h hs=>by
  have hd:List.drop i (List.take (i+1) l)= [l[i]]:=by
   rw[List.drop_take,Nat.add_sub_cancel_left,List.drop_eq_getElem_cons h]
   rfl
  have hb:=Gs [l[i]] (by simp)
  have hb1:du [l[i]]=bk l[i] 8:=by simp[du]
  have hbd:aC l.length (some (.dat (.int .i64) ((i:Nat):Int))) (some (.dat (.int .i64) (((i+1:Nat):Int))))=some (i,i+1):=by
   unfold aC
   simp[i9,iC]
   omega
  simp only[fQ,aM h,av h (show l.length≤1099511627776 by omega)]
  rw[aE (by simp;omega),hbd]
  simp only[aa,hd,hb,hb1]
  rw[aE (by simp[eS];omega)]
  simp only[List.append_assoc]) (List.replicate 8 (0:Int)++ [1]) (by simp)
 have e:ac fQ (l,(List.replicate (8:Int).toNat (0:Int))++ [1],(0:Int),())=_:=e
 have hlen:=Gy l
 unfold n9
 simp only[e]
 rw[if_pos (show(0:Int)≤8∧(8:Int)≤8 from⟨by decide,by decide⟩),aE (by decide),aE (by decide),aE (by rw[hlen];show 9+10*l.length+2≤_;omega)]
 rfl
end Go.Proofs.YthfgmmmeplanbaaGreatDoor
namespace Go.Proofs.YthfgmmmeplanbaaGreatDoor
open Go.RowKit
set_option linter.unusedVariables false
set_option linter.unusedSimpArgs false
theorem yM(n:Nat)(h:n≤1099511627776):lN ((n:Int),())=some (List.replicate n (1:Int),()):=by
 have hr:JV [(1:Int)] (n:Int)=some (List.replicate n 1):=by
  show(if(0:Int)≤(n:Int)∧(n:Int)≤1099511627776 then some (List.replicate ((n:Int)).toNat (1:Int))else none)=_
  rw[if_pos ⟨by omega,by omega⟩,Int.toNat_natCast]
 have hs:ip ([(1:Int)],(n:Int),())=some (List.replicate n (1:Int),()):=by
  unfold ip
  simp only[hr,aa]
 unfold lN
 simp only[hs]
theorem Pw(x:Int):∀(n:Nat) (acc:List Int),acc.length+n≤1099511627776→ac gU ((n:Int),x,acc,())=some (.inl (acc++List.replicate n x,()))
 |0,acc,_=>by
  rw[an]
  have hd:decide (((0:Nat):Int)>0)=false:=by decide
  simp only[gU,hd,List.replicate_zero,List.append_nil]
 |n+1,acc,h=>by
  rw[an]
  have hd:decide (((n+1:Nat):Int)>0)=true:=decide_eq_true (by omega)
  have hw:IntKind.i64.wrap (((n+1:Nat):Int)-1)=(n:Int):=by rw[wrap_i64]<;>omega
  simp only[gU,hd,hw]
  rw[aE (by show acc.length+1≤_;omega)]
  simp only
  rw[Pw x n (acc++ [x]) (by simp;omega),List.append_assoc,List.singleton_append,List.replicate_succ]
theorem se(n:Nat)(x:Int)(h:n≤1099511627776):dp ((n:Int),x,())=some (List.replicate n x,()):=by
 have e:=Pw x n [] (by simp;omega)
 unfold dp
 simp only[e,List.nil_append]
theorem Uu(v:Int)(n:Nat):∀(k i:Nat) (acc:List Int),i+k=n→acc.length+k≤1099511627776→n≤1099511627776→ac ia (acc,v,(n:Int),(i:Int),())=some (.inl (acc++List.replicate k v,()))
 |0,i,acc,hi,_,_=>by
  have hi:i=n:=by omega
  subst hi
  rw[an]
  simp only[ia,aK,List.replicate_zero,List.append_nil]
 |k+1,i,acc,hi,h,hn=>by
  have hlt:i<n:=by omega
  rw[an]
  simp only[ia,aM hlt,av hlt hn]
  rw[aE (by show acc.length+1≤_;omega)]
  simp only
  rw[Uu v n k (i+1) (acc++ [v]) (by omega) (by simp;omega) hn,List.append_assoc,List.singleton_append,List.replicate_succ]
theorem VI(acc:List Int)(v:Int)(n:Nat)(h:acc.length+n≤1099511627776):ph (acc,v,(n:Int),())=some (acc++List.replicate n v,()):=by
 have e:=Uu v n n 0 acc (by omega) h (by omega)
 have e:ac ia (acc,v,(n:Int),(0:Int),())=_:=e
 unfold ph
 simp only[e]
def dL(l:List Int):List Int:=l.flatMap fun c=>List.replicate 8 c
theorem QW(l:List Int):(dL l).length=8*l.length:=by
 unfold dL
 induction l with
 |nil=>rfl
 |cons c l ih=>rw[List.flatMap_cons,List.length_append,ih,List.length_replicate,List.length_cons];omega
theorem Yb {l:List Int}(h:∀b ∈ l,b=0∨b=1):∀b ∈ dL l,b=0∨b=1:=by
 intro b hb
 unfold dL at hb
 obtain⟨c,hc,hb⟩:=List.mem_flatMap.1 hb
 rw[(List.mem_replicate.1 hb).2]
 exact h c hc
theorem Vj {l:List Int}(h:∀b ∈ l,b=0∨b=1)(hl:l.length≤8192):bv l=true:=by
 unfold bv
 simp only[Bool.and_eq_true,List.all_eq_true,decide_eq_true_eq]
 refine⟨by omega,fun v hv=>bi.2 ?_⟩
 rcases h v hv with rfl|rfl<;>omega
theorem Uv(l:List Int)(h:∀b ∈ l,b=0∨b=1)(hl:l.length≤1024):ic (l,())=some (dL l,(0:Int),()):=by
 have hb:=I7 l (by omega)
 rw[Vj h (by omega)]at hb
 have e:=Js (B:=cZ) l (fun s i=>(s,l,(l.length:Int),(i:Int),())) (fun c=>List.replicate 8 c) 0 8 (fun v _=>by simp) (fun s=>.inl (s,())) (fun s=>by simp only[cZ,aK]) (fun s i h hs=>by
  have ha:ph (s,l[i],(8:Int),())=some (s++List.replicate 8 l[i],()):=VI s l[i] 8 (by omega)
  simp only[cZ,aM h,av h (show l.length≤1099511627776 by omega),am h,aa,ha]) [] (by simp)
 have e:ac cZ ([],l,(l.length:Int),(0:Int),())=_:=e
 have hw:decide (IntKind.i64.wrap ((l.length:Int)*8)>8192)=false:=by
  have:IntKind.i64.wrap ((l.length:Int)*8)=(l.length:Int)*8:=by rw[wrap_i64]<;>omega
  rw[this]
  exact decide_eq_false (by omega)
 unfold ic
 simp only[hb,Bool.not_true,hw,e,List.nil_append]
 rfl
theorem Jt(l w:List Int)(j:Nat)(hj:j<l.length)(hj2:j<w.length)(hw:w[j]=8):∀(k i:Nat) (acc:List Int),i+k=8→acc.length+k≤1099511627776→ac eF (l,w,acc,(j:Int),(i:Int),())=some (.inl (l,w,acc++List.replicate k l[j],(j:Int),()))
 |0,i,acc,hi,_=>by
  have hi:i=8:=by omega
  subst hi
  rw[an]
  have hd:decide (((8:Nat):Int)<8)=false:=by decide
  simp only[eF,am hj2,aa,hw,hd,List.replicate_zero,List.append_nil]
 |k+1,i,acc,hi,h=>by
  rw[an]
  have hd:decide ((i:Int)<8)=true:=by simp;omega
  have hn:IntKind.i64.wrap ((i:Int)+1)=((i+1:Nat):Int):=by rw[wrap_i64]<;>omega
  simp only[eF,am hj2,am hj,aa,hw,hd,hn]
  rw[aE (by show acc.length+1≤_;omega)]
  simp only
  rw[Jt l w j hj hj2 hw k (i+1) (acc++ [l[j]]) (by omega) (by simp;omega),List.append_assoc,List.singleton_append,List.replicate_succ]
theorem Uw(l:List Int)(hl:l.length≤1024):kU (l,())=some (dL l,()):=by
 have hq:dp ((l.length:Int),(8:Int),())=some (List.replicate l.length (8:Int),()):=se l.length 8 (by omega)
 have e:=Js (B:=eG) l (fun s i=>(l,List.replicate l.length (8:Int),s,(i:Int),())) (fun c=>List.replicate 8 c) 0 8 (fun v _=>by simp) (fun s=>.inl (s,())) (fun s=>by simp only[eG,aK]) (fun s i h hs=>by
  have ha:ac eF (l,List.replicate l.length (8:Int),s,(i:Int),(0:Int),())=_:=Jt l (List.replicate l.length (8:Int)) i h (by simpa using h) (by simp) 8 0 s (by omega) (by omega)
  simp only[eG,aM h,ha,av h (show l.length≤1099511627776 by omega)]) [] (by simp)
 have e:ac eG (l,List.replicate l.length (8:Int),[],(0:Int),())=_:=e
 unfold kU s7
 simp only[hq,e,List.nil_append]
 rfl
noncomputable def cQ(m:ag.T)(st:ab.T)(f:aG.T):Bool:=(br f&&iq (bP m st) f)&&(!(f.1 != (0:Int))||dz ab f.2.2.1 st)
theorem WF(d:aZ.T)(f:aG.T)(hd:jR d=true)(hl:f.2.2.2.1.length≤1099511627776):ib (d,f,())=some (br f&&iq d f,()):=by
 have h1:eM (d,())=some (true,()):=by rw[←hd];exact Ul (d,())
 have h2:eo (f,())=some (br f,()):=RC (f,()) hl
 have h3:tM (d,f,())=some (iq d f,()):=RN (d,f,())
 have e0:ib (d,f,())=match eM (d,())with
  |none=>none
  |some v1=>match v1.1 with
   |true=>match eo (f,())with
    |none=>none
    |some v2=>match v2.1 with
     |true=>match tM (d,f,())with
      |none=>none
      |some v3=>some (v3.1,())
     |false=>some (false,())
   |false=>some (false,()):=rfl
 rw[e0,h1]
 simp only[h2]
 cases br f
 ·rfl
 ·simp only[h3,Bool.true_and]
theorem WG(d:aZ.T)(f:aG.T)(hd:jR d=true)(hl:f.2.2.2.1.length≤1099511627776):cW (d,f,())=some (br f&&iq d f,()):=by
 have h1:dS (d,())=some (true,()):=by rw[←hd];exact Pg (d,())
 have h2:ct (f,())=some (br f,()):=KS (f,()) hl
 cases hf:br f with
 |true=>rw[RO d f hd hf hl,Bool.true_and]
 |false=>
  rw[hf]at h2
  have e0:cW (d,f,())=match dS (d,())with
   |none=>none
   |some v1=>match v1.1 with
    |true=>match ct (f,())with
     |none=>none
     |some v2=>match v2.1 with
      |true=>_
      |false=>some (false,())
    |false=>some (false,()):=rfl
  rw[e0,h1]
  simp only[h2]
  rfl
theorem Ux(m:ag.T)(st:ab.T)(f:aG.T)(h:bD m=true)(hb:aJ m st=true)(hl:f.2.2.2.1.length≤1099511627776):gh (m,st,f,())=some (cQ m st f,()):=by
 obtain⟨_,hd,hq⟩:=fA m st h hb
 have hf:=WF (bP m st) f hq hl
 have e0:gh (m,st,f,())=match a9z (m,st,())with
  |none=>none
  |some v1=>match ib (v1.1,f,())with
   |none=>none
   |some v2=>match v2.1 with
    |true=>match(!(f.1 != (0:Int)))with
     |true=>some (true,())
     |false=>some ((dz ab f.2.2.1 st),())
    |false=>some (false,()):=rfl
 rw[e0,hd]
 simp only[hf]
 unfold cQ
 cases br f&&iq (bP m st) f<;>cases (!(f.1 != (0:Int)))<;>simp
theorem XI(m:ag.T)(st:ab.T)(f:aG.T)(h:bD m=true)(hb:aJ m st=true)(hl:f.2.2.2.1.length≤1099511627776):kg (m,st,f,())=some (cQ m st f,()):=by
 obtain⟨hd,_,hq⟩:=fA m st h hb
 have hf:=WG (bP m st) f hq hl
 have e0:kg (m,st,f,())=match cG (m,st,())with
  |none=>none
  |some v1=>match cW (v1.1,f,())with
   |none=>none
   |some v2=>match v2.1 with
    |true=>match(!(f.1 != (0:Int)))with
     |true=>some (true,())
     |false=>some ((dz ab f.2.2.1 st),())
    |false=>some (false,()):=rfl
 rw[e0,hd]
 simp only[hf]
 unfold cQ
 cases br f&&iq (bP m st) f<;>cases (!(f.1 != (0:Int)))<;>simp
noncomputable def gk(m:ag.T)(st:ab.T)(f:aG.T):Int:=match bD m with
 |false=>1
 |true=>match aJ m st with
  |false=>2
  |true=>match cQ m st f with
   |false=>5
   |true=>0
theorem WH(m:ag.T)(st:ab.T)(f:aG.T)(hz:d4 m)(hl:f.2.2.2.1.length≤1099511627776):oG (m,st,f,())=some (gk m st f,()):=by
 have hM:jN (m,())=_:=Pp m hz
 have e0:oG (m,st,f,())=match dV (m,st,())with
  |none=>none
  |some v1=>match(v1.1 != (0:Int))with
   |true=>some (v1.1,())
   |false=>match gh (m,st,f,())with
    |none=>none
    |some v2=>match(!v2.1)with
     |true=>some ((5:Int),())
     |false=>some ((0:Int),()):=rfl
 have e1:dV (m,st,())=match jN (m,())with
  |none=>none
  |some v1=>match(!v1.1)with
   |true=>some ((1:Int),())
   |false=>match le (m,st,())with
    |none=>none
    |some v2=>match(!v2.1)with
     |true=>some ((2:Int),())
     |false=>some ((0:Int),()):=rfl
 rw[e0,e1,hM]
 unfold gk
 rcases Bool.eq_false_or_eq_true (bD m)with h1|h1<;>simp only[h1,Bool.not_true,Bool.not_false]
 ·have hB:=SW m st h1
  simp only[hB]
  rcases Bool.eq_false_or_eq_true (aJ m st)with h2|h2<;>simp only[h2,Bool.not_true,Bool.not_false]
  ·have hS:=Ux m st f h1 h2 hl
   have k0:((0:Int) != 0)=false:=rfl
   simp only[k0,hS]
   cases cQ m st f<;>rfl
  ·rfl
 ·rfl
end Go.Proofs.YthfgmmmeplanbaaGreatDoor
namespace Go.Proofs.YthfgmmmeplanbaaGreatDoor
open Go.RowKit
set_option linter.unusedVariables false
set_option linter.unusedSimpArgs false
theorem XJ(n:Nat)(hn:n≤1099511627776):jd ((),(n:Int),())=some ([],()):=by
 unfold jd
 have w0:IntKind.i64.wrap ((0:Int)-0)=0:=by decide
 have w1:IntKind.i64.wrap ((n:Int)-0)=n:=by rw[Int.sub_zero,wrap_i64]<;>omega
 have n0:decide ((n:Int)<0)=false:=by simp
 simp only[w0,w1,n0]
 by_cases h:(n:Int)>0
 ·have b1:aC 0 none (some (.dat (.int .i64) (0:Int)))=some (0,0):=rfl
  have b2:aC (List.replicate ((n:Int).toNat) (0:Int)).length none (some (.dat (.int .i64) (0:Int)))=some (0,0):=by
   have hh:(0:Int)≤0∧(0:Int)≤0∧(0:Int)≤((List.replicate ((n:Int).toNat) (0:Int)).length:Int):=⟨by omega,by omega,by omega⟩
   simp only[aC,i9,iC]
   exact if_pos hh
  have hp:(0:Int)≤(n:Int):=by omega
  simp only[decide_eq_true h,b1,aa,hp,if_true]
  rw[aE (by rw[Int.toNat_natCast];exact hn),b2]
  rfl
 ·simp only[decide_eq_false h]
theorem Vk(a b:List Int)(h:a.length+b.length≤1099511627776):fI ([a,b],())=some (a++b,()):=by
 unfold fI
 have w1:IntKind.i64.wrap ((0:Int)+(a.length:Int))=(a.length:Int):=by rw[Int.zero_add,wrap_i64]<;>omega
 have w2:IntKind.i64.wrap ((a.length:Int)+(b.length:Int))=((a.length+b.length:Nat):Int):=by rw[←Int.natCast_add,wrap_i64]<;>omega
 have n1:decide ((a.length:Int)<0)=false:=by simp
 have n2:decide (((a.length+b.length:Nat):Int)<0)=false:=by simp;omega
 have i0:aw [a,b] (0:Int)=some a:=rfl
 have i1:aw [a,b] (1:Int)=some b:=rfl
 have k1:IntKind.i64.wrap ((0:Int)+1)=1:=by decide
 have k2:IntKind.i64.wrap ((1:Int)+1)=2:=by decide
 have c0:decide ((0:Int)<2)=true:=by decide
 have c1:decide ((1:Int)<2)=true:=by decide
 have c2:decide ((2:Int)<2)=false:=by decide
 have e1:ac ce ([a,b],(0:Int),[a,b],((2:Nat):Int),(0:Int),())=some (.inl ([a,b],((a.length+b.length:Nat):Int),())):=by
  rw[an]
  simp only[ce,i0,aa,w1,n1,k1,c0,show(((2:Nat):Int))=2 from rfl]
  rw[an]
  simp only[ce,i1,aa,w2,n2,k2,c1]
  rw[an]
  simp only[ce,c2]
 have e2:ac bT ([],[a,b],((2:Nat):Int),(0:Int),())=some (.inl (a++b,())):=by
  rw[an]
  simp only[bT,i0,aa,k1,c0,show(((2:Nat):Int))=2 from rfl]
  rw[aE (by simp;omega)]
  simp only[List.nil_append]
  rw[an]
  simp only[bT,i1,aa,k2,c1]
  rw[aE (by omega)]
  simp only
  rw[an]
  simp only[bT,c2]
 have e1:ac ce ([a,b],(0:Int),[a,b],(([a,b]:List (List Int)).length:Int),(0:Int),())=_:=e1
 have e2:ac bT ([],[a,b],(([a,b]:List (List Int)).length:Int),(0:Int),())=_:=e2
 simp only[e1,XJ _ h,e2]
theorem r4 {m:ag.T}{st:ab.T}{f:aG.T}(h:cQ m st f=true):br f=true∧iq (bP m st) f=true:=by
 unfold cQ at h
 simp only[Bool.and_eq_true]at h
 exact h.1
theorem Px {m:ag.T}{st:ab.T}{f:aG.T}(r:Nat)(hr:r<16777216)(h:bD m=true)(hb:aJ m st=true)(hs:cQ m st f=true):
  ∃D:Nat,(bP m st).2.2.2.1=(D:Int)∧19+10*(cP f r st).length+12≤D∧D≤1000:=by
 obtain⟨hf,ht⟩:=r4 hs
 obtain⟨_,_,hq⟩:=fA m st h hb
 obtain⟨_,hl,_⟩:=Dp (st:=st) hf hr
 generalize bP m st=d at hq ht
 unfold jR at hq
 unfold iq at ht
 simp only[Bool.and_eq_true,beq_iff_eq]at hq ht
 obtain⟨q1,q2,q3,q4,q5⟩:=hq
 obtain⟨t1,t2,t3⟩:=ht
 have hsz:=ua q3
 have hbn:=yI d.2.1 d.2.2.1 hsz.1 hsz.2
 rw[t1,t2]at hl
 have q5:=bi.1 q5
 have hc:t8 d.2.1 d.2.2.1=11+10*(jQ d.2.1 d.2.2.1+3):=rfl
 rw[hc]at q5
 generalize (cP f r st).length=k at hl ⊢
 generalize jQ d.2.1 d.2.2.1=bn at hl hbn q5
 have hw:IntKind.i64.wrap (11+10*(bn+3)+20)=11+10*(bn+3)+20:=by rw[wrap_i64]<;>omega
 rw[hw]at q5
 generalize d.2.2.2.1=D at q5
 have hD:(0:Int)≤D:=by omega
 obtain⟨D,rfl⟩:=Int.eq_ofNat_of_zero_le hD
 exact⟨D,rfl,by omega,by omega⟩
def eU(m:ag.T)(st:ab.T)(f:aG.T):List Int:=(List.replicate 8 (1:Int)++kF (cP f m.1.toNat st))++List.replicate ((bP m st).2.2.2.1.toNat-(19+10*(cP f m.1.toNat st).length)) 1
theorem K3 {m:ag.T}{st:ab.T}{f:aG.T}(h:gk m st f=0):bD m=true∧aJ m st=true∧cQ m st f=true:=by
 unfold gk at h
 cases h1:bD m<;>rw[h1]at h
 ·cases h
 ·cases h2:aJ m st<;>rw[h2]at h
  ·cases h
  ·cases h3:cQ m st f<;>rw[h3]at h
   ·cases h
   ·exact⟨rfl,rfl,rfl⟩
theorem vq {m:ag.T}{st:ab.T}(h:aJ m st=true):bU st=true:=by
 unfold aJ at h
 simp only[Bool.and_eq_true]at h
 exact h.1
theorem GD {m:ag.T}{st:ab.T}{f:aG.T}(h:gk m st f=0):(eU m st f).length≤1000∧∀b ∈ eU m st f,b=0∨b=1:=by
 obtain⟨h1,h2,h3⟩:=K3 h
 obtain⟨r,hr,hr2⟩:=xI h1
 obtain⟨D,hD,d1,d2⟩:=Px r hr2 h1 h2 h3
 obtain⟨s1,_,_⟩:=Dp (st:=st) (r4 h3).1 hr2
 unfold eU
 rw[hD,hr,Int.toNat_natCast,Int.toNat_natCast]
 refine⟨?_,fun b hb=> ?_⟩
 ·rw[List.length_append,List.length_append,Gz,List.length_replicate,List.length_replicate]
  omega
 ·simp only[List.mem_append,List.mem_replicate]at hb
  rcases hb with(⟨_,rfl⟩|hb)|⟨_,rfl⟩
  ·exact .inr rfl
  ·exact WE s1 b hb
  ·exact .inr rfl
theorem QX(m:ag.T)(st:ab.T)(f:aG.T)(hz:d4 m)(hl:f.2.2.2.1.length≤1099511627776):mp (m,st,f,())=some (if gk m st f=0 then(eU m st f,(0:Int),())else([],gk m st f,())):=by
 have hc:=WH m st f hz hl
 have e0:mp (m,st,f,())=match oG (m,st,f,())with
  |none=>none
  |some v1=>match(v1.1 != (0:Int))with
   |true=>some ([],v1.1,())
   |false=>match lN ((8:Int),())with
    |none=>none
    |some v2=>match xt (f,m.1,st,())with
     |none=>none
     |some v3=>match qh (v3.1,(8:Int),())with
      |none=>none
      |some v4=>match fI ([v2.1,v4.1],())with
       |none=>none
       |some v5=>match a9z (m,st,())with
        |none=>none
        |some v6=>match lN ((IntKind.i64.wrap (v6.1.2.2.2.1-(v5.1.length:Int))),())with
         |none=>none
         |some v7=>a7 (v5.1.length+v7.1.length) (some ((v5.1++v7.1),(0:Int),())):=rfl
 rw[e0,hc]
 by_cases h:gk m st f=0
 ·obtain⟨h1,h2,h3⟩:=K3 h
  obtain⟨r,hr,hr2⟩:=xI h1
  obtain⟨D,hD,d1,d2⟩:=Px r hr2 h1 h2 h3
  have hf:=(r4 h3).1
  obtain⟨s1,_,s2⟩:=Dp (st:=st) hf hr2
  have k0:(gk m st f != 0)=false:=by rw[h];rfl
  have a1:lN ((8:Int),())=some (List.replicate 8 (1:Int),()):=yM 8 (by omega)
  have a2:xt (f,m.1,st,())=some (cP f r st,()):=by rw[hr];exact Us f r st hf hr2 (vq h2)
  have a3:=XG (cP f r st) (by omega)
  have hll:=Gz (cP f r st)
  have a4:=Vk (List.replicate 8 (1:Int)) (kF (cP f r st)) (by rw[List.length_replicate];omega)
  obtain⟨_,a5,_⟩:=fA m st h1 h2
  have hlen:(List.replicate 8 (1:Int)++kF (cP f r st)).length=19+10*(cP f r st).length:=by rw[List.length_append,List.length_replicate,hll];omega
  have hw:IntKind.i64.wrap ((bP m st).2.2.2.1-(((List.replicate 8 (1:Int)++kF (cP f r st)).length:Nat):Int))=((D-(19+10*(cP f r st).length):Nat):Int):=by
   rw[hlen,hD,wrap_i64]<;>omega
  have a6:=yM (D-(19+10*(cP f r st).length)) (by omega)
  rw[if_pos h]
  simp only[k0,a1,a2,a3,a4,a5]
  have hw':IntKind.i64.wrap ((bP m st).2.2.2.1-((List.replicate 8 (1:Int)++kF (cP f r st)).length:Int))=((D-(19+10*(cP f r st).length):Nat):Int):=hw
  rw[hw']
  simp only[a6]
  rw[aE (by rw[hlen,List.length_replicate];omega)]
  unfold eU
  rw[hD,hr,Int.toNat_natCast,Int.toNat_natCast]
 ·have k0:(gk m st f != 0)=true:=by simpa using h
  rw[if_neg h]
  simp only[k0]
theorem QY(m:ag.T)(st:ab.T)(f:aG.T)(hz:d4 m)(h:gk m st f=0):oa (m,st,f,())=some (eU m st f,()):=by
 obtain⟨h1,h2,h3⟩:=K3 h
 obtain⟨r,hr,hr2⟩:=xI h1
 obtain⟨D,hD,d1,d2⟩:=Px r hr2 h1 h2 h3
 have hf:=(r4 h3).1
 obtain⟨s1,_,s2⟩:=Dp (st:=st) hf hr2
 have a1:dp ((8:Int),(1:Int),())=some (List.replicate 8 (1:Int),()):=se 8 1 (by omega)
 have a2:nn (f,m.1,st,())=some (cP f r st,()):=by rw[hr];exact Ut f r st hf hr2 (vq h2)
 have a3:=XH (cP f r st) (by omega)
 have hll:=Gz (cP f r st)
 obtain⟨a5,_,_⟩:=fA m st h1 h2
 have hlen:(List.replicate 8 (1:Int)++kF (cP f r st)).length=19+10*(cP f r st).length:=by rw[List.length_append,List.length_replicate,hll];omega
 have hw:IntKind.i64.wrap ((bP m st).2.2.2.1-(((List.replicate 8 (1:Int)++kF (cP f r st)).length:Nat):Int))=((D-(19+10*(cP f r st).length):Nat):Int):=by
  rw[hlen,hD,wrap_i64]<;>omega
 have a6:=se (D-(19+10*(cP f r st).length)) 1 (by omega)
 have e0:oa (m,st,f,())=aL (
  match dp ((8:Int),(1:Int),())with
  |none=>none
  |some v1=>match nn (f,m.1,st,())with
   |none=>none
   |some v2=>match n9 (v2.1,(8:Int),())with
    |none=>none
    |some v3=>a7 (v1.1.length+v3.1.length) (
     match cG (m,st,())with
     |none=>none
     |some v4=>match dp ((IntKind.i64.wrap (v4.1.2.2.2.1-((v1.1++v3.1).length:Int))),(1:Int),())with
      |none=>none
      |some v5=>a7 ((v1.1++v3.1).length+v5.1.length) (some (((v1.1++v3.1)++v5.1),())))):=rfl
 rw[e0]
 simp only[a1,a2,a3,a5]
 have hw':IntKind.i64.wrap ((bP m st).2.2.2.1-((List.replicate 8 (1:Int)++kF (cP f r st)).length:Int))=((D-(19+10*(cP f r st).length):Nat):Int):=hw
 rw[hw',aE (by rw[List.length_replicate,hll];omega)]
 simp only[a6]
 rw[aE (by rw[hlen,List.length_replicate];omega)]
 unfold eU
 rw[hD,hr,Int.toNat_natCast,Int.toNat_natCast]
 exact dY _
theorem WI(m:ag.T)(st:ab.T)(f:aG.T)(hz:d4 m)(hl:f.2.2.2.1.length≤1099511627776):ko (m,st,f,())=some (if gk m st f=0 then(dL (eU m st f),(0:Int),())else([],gk m st f,())):=by
 have hc:=QX m st f hz hl
 have e0:ko (m,st,f,())=match mp (m,st,f,())with
  |none=>none
  |some v1=>match(v1.2.1 != (0:Int))with
   |true=>some ([],v1.2.1,())
   |false=>match ic (v1.1,())with
    |none=>none
    |some v2=>some v2:=rfl
 rw[e0,hc]
 by_cases h:gk m st f=0
 ·obtain⟨c1,c2⟩:=GD h
  have hn:=Uv (eU m st f) c2 (by omega)
  simp only[if_pos h,hn]
  rfl
 ·have k0:(gk m st f != 0)=true:=by simpa using h
  simp only[if_neg h,k0]
end Go.Proofs.YthfgmmmeplanbaaGreatDoor
namespace Go.Proofs.YthfgmmmeplanbaaGreatDoor
open Go.RowKit
set_option linter.unusedVariables false
set_option linter.unusedSimpArgs false
def yN(k:Int):Bool:=(k != 1)&&(k != 5)
def CY(k:Int):Bool:=(k==4)||(k==6)
def eV(f:al.T):Bool:=aI f.1 1 6&&(aI f.2.1 0 8192&&((if yN f.1 then aI f.2.2.1 1 8192 else f.2.2.1==(0:Int))&&(if CY f.1 then aI f.2.2.2.1 0 1 else f.2.2.2.1==(0:Int))))
theorem Vl(x):pv x=some (yN x.1,()):=by
 unfold pv yN
 rcases Bool.eq_false_or_eq_true (x.1 != (1:Int))with h|h<;>simp only[h]<;>rfl
theorem Vm(x):oC x=some (CY x.1,()):=by
 unfold oC CY
 rcases Bool.eq_false_or_eq_true (x.1==(4:Int))with h|h<;>simp only[h]<;>rfl
theorem Vn(x):nu x=some (eV x.1,()):=by
 unfold nu eV
 simp only[lp,Vl,Vm]
 rcases Bool.eq_false_or_eq_true (aI x.1.1 1 6)with h1|h1<;>rcases Bool.eq_false_or_eq_true (aI x.1.2.1 0 8192)with h2|h2<;>rcases Bool.eq_false_or_eq_true (yN x.1.1)with h3|h3<;>rcases Bool.eq_false_or_eq_true (CY x.1.1)with h4|h4<;>rcases Bool.eq_false_or_eq_true (aI x.1.2.2.1 1 8192)with h5|h5<;>rcases Bool.eq_false_or_eq_true (x.1.2.2.1==(0:Int))with h6|h6<;>simp only[h1,h2,h3,h4,h5,h6]<;>rfl
theorem Vo(k:Int)(h:aI k 1 6=true):vD (k,())=some (yN k,CY k,()):=by
 have:=bi.1 h
 have hk:k=1∨k=2∨k=3∨k=4∨k=5∨k=6:=by omega
 rcases hk with rfl|rfl|rfl|rfl|rfl|rfl<;>rfl
theorem Vp(x):pX x=some (eV x.1,()):=by
 have hz:(aI x.1.2.2.2.1 0 1&&(x.1.2.2.2.1==(0:Int)))=(x.1.2.2.2.1==(0:Int)):=by
  rcases Bool.eq_false_or_eq_true (x.1.2.2.2.1==(0:Int))with h|h
  ·have h0:x.1.2.2.2.1=0:=by simpa using h
   rw[h0];rfl
  ·rw[h,Bool.and_false]
 unfold pX eV
 simp only[iv]
 rcases Bool.eq_false_or_eq_true (aI x.1.1 1 6)with h1|h1
 ·have hf:=Vo x.1.1 h1
  simp only[h1,hf]
  rcases Bool.eq_false_or_eq_true (aI x.1.2.1 0 8192)with h2|h2<;>rcases Bool.eq_false_or_eq_true (yN x.1.1)with h3|h3<;>rcases Bool.eq_false_or_eq_true (CY x.1.1)with h4|h4<;>rcases Bool.eq_false_or_eq_true (aI x.1.2.2.1 1 8192)with h5|h5<;>rcases Bool.eq_false_or_eq_true (x.1.2.2.1==(0:Int))with h6|h6<;>rcases Bool.eq_false_or_eq_true (aI x.1.2.2.2.1 0 1)with h7|h7<;>rcases Bool.eq_false_or_eq_true (x.1.2.2.2.1==(0:Int))with h8|h8<;>simp only[h7,h8,Bool.false_and,Bool.true_and,reduceCtorEq]at hz<;>simp only[h2,h3,h4,h5,h6,h7,h8,bne]<;>rfl
 ·simp only[h1]
  rfl
def ep(l:List al.T):Bool:=decide ((l.length:Int)≤30)&&l.all eV
theorem LN(l:List al.T)(hl:l.length≤1099511627776):n6 (l,())=some (ep l,()):=by
 have e:=iJ (B:=fO) l (fun i=>(l,(i:Int),())) eV (.inl (l,())) (.inr (false,())) (by simp only[fO,aK]) (fun i h=>by
  have hf:pX (l[i],())=some (eV l[i],()):=Vp (l[i],())
  simp only[fO,aM h,av h hl,am h,aa,hf]
  cases eV l[i]<;>simp)
 have e:ac fO (l,(0:Int),())=_:=e
 unfold n6 ep
 simp only[e]
 cases l.all eV<;>simp
theorem LO(l:List al.T)(hl:l.length≤1099511627776):oD (l,())=some (ep l,()):=by
 have hc:=KP l hl lh (fun f=> !eV f) (fun i h=>by
  have hf:nu (l[i],())=some (eV l[i],()):=Vn (l[i],())
  have e0:lh (l[i],())=match nu (l[i],())with
   |none=>none
   |some v1=>some ((!v1.1),()):=rfl
  rw[e0,hf])
 have e0:oD (l,())=match(decide ((l.length:Int)≤(30:Int)))with
  |true=>match dt (l,lh,())with
   |none=>none
   |some v1=>some ((!v1.1),())
  |false=>some (false,()):=rfl
 rw[e0,hc]
 unfold ep
 rw[xz]
 cases decide ((l.length:Int)≤30)
 ·rfl
 ·simp
def chg(g:Int→Int):Nat→Nat→List Int→List Int
 |0,_,l=>l
 |k+1,i,l=>chg g k (i+1) (l.set i (g (l.getD i 0)))
theorem xJ(g:Int→Int):∀(k i:Nat) (l:List Int),(chg g k i l).length=l.length
 |0,_,_=>rfl
 |k+1,i,l=>by rw[chg,xJ g k,List.length_set]
theorem LP(by_:Int×Unit→Option (Int×Unit))(g:Int→Int)(hg:∀v,by_ (v,())=some (g v,()))(to:Int):∀(k i:Nat) (l:List Int),l.length≤1000000→((i+k:Nat):Int)=(if(l.length:Int)<to then(l.length:Int)else to)→ac gg (l,to,by_,(i:Int),())=some (.inl (chg g k i l,()))
 |0,i,l,hl,h=>by
  rw[an]
  have hd:decide ((i:Int)<(if(l.length:Int)<to then(l.length:Int)else to))=false:=decide_eq_false (by omega)
  simp only[gg,hd]
  rfl
 |k+1,i,l,hl,h=>by
  have hlt:i<l.length:=by split at h<;>omega
  rw[an]
  have hd:decide ((i:Int)<(if(l.length:Int)<to then(l.length:Int)else to))=true:=decide_eq_true (by omega)
  have hget:l[i]? =some l[i]:=List.getElem?_eq_getElem hlt
  simp only[gg,hd,am hlt,aa,Int.toNat_natCast,hget,hg,av hlt (show l.length≤1099511627776 by omega)]
  have ih:=LP by_ g hg to k (i+1) (l.set i (g l[i])) (by rw[List.length_set];exact hl) (by rw[List.length_set];omega)
  rw[ih,chg,List.getD_eq_getElem?_getD,hget]
  rfl
def ue(g:Int→Int)(l:List Int)(a b:Nat):List Int:=chg g (min b l.length-min a l.length) (min a l.length) l
theorem vr(by_:Int×Unit→Option (Int×Unit))(g:Int→Int)(hg:∀v,by_ (v,())=some (g v,()))(l:List Int)(hl:l.length≤1000000)(a b:Nat)(ha:a≤1000000):m5 (l,(a:Int),(b:Int),by_,())=some (ue g l a b,()):=by
 have key:ac gg (l,(b:Int),by_,(a:Int),())=some (.inl (ue g l a b,())):=by
  by_cases h:a≤min b l.length
  ·have:=LP by_ g hg (b:Int) (min b l.length-a) a l hl (by split<;>omega)
   rw[this]
   unfold ue
   rw[Nat.min_eq_left (show a≤l.length by omega)]
  ·rw[an]
   have hd:decide ((a:Int)<(if(l.length:Int)<(b:Int)then(l.length:Int)else(b:Int)))=false:=decide_eq_false (by split<;>omega)
   simp only[gg,hd]
   unfold ue
   rw[show min b l.length-min a l.length=0 by omega]
   rfl
 unfold m5
 simp only[key]
end Go.Proofs.YthfgmmmeplanbaaGreatDoor
namespace Go.Proofs.YthfgmmmeplanbaaGreatDoor
open Go.RowKit
set_option linter.unusedVariables false
set_option linter.unusedSimpArgs false
def vt(v:Int):Int:=IntKind.i64.wrap (1-v)
def gF(f:al.T):Int→Int:=if(f.1==(5:Int))=true then fun _=>1 else if(f.1==(6:Int))=true then fun _=>f.2.2.2.1 else vt
theorem K4(n k:Nat)(e:Int)(he:e=(k:Int))(hk:k≤n):aC n none (some (.dat (.int .i64) e))=some (0,k):=by
 subst he
 simp only[aC,i9,iC,rv]
 rw[if_pos (by omega)]
 simp
theorem Py(n k:Nat)(e:Int)(he:e=(k:Int))(hk:k≤n):aC n (some (.dat (.int .i64) e)) none=some (k,n):=by
 subst he
 simp only[aC,i9,iC,rv]
 rw[if_pos (by omega)]
 simp
theorem Uy(f:al.T)(to:Nat):∀(k i:Nat) (l:List Int),l.length≤1000000→i+k=to→to≤l.length→ac cO (f,(to:Int),l,(i:Int),())=some (.inl (chg (gF f) k i l,()))
 |0,i,l,hl,h,ht=>by
  have h:i=to:=by omega
  subst h
  rw[an]
  simp only[cO,aK]
  rfl
 |k+1,i,l,hl,h,ht=>by
  have hlt:i<l.length:=by omega
  have hlt2:i<to:=by omega
  have hget:l[i]? =some l[i]:=List.getElem?_eq_getElem hlt
  have hg:l.getD i 0=l[i]:=by rw[List.getD_eq_getElem?_getD,hget];rfl
  have ih:=Uy f to k (i+1) (l.set i (gF f l[i])) (by rw[List.length_set];exact hl) (by omega) (by rw[List.length_set];exact ht)
  rw[an,chg,hg]
  unfold gF at ih ⊢
  rcases Bool.eq_false_or_eq_true (f.1==(5:Int))with h5|h5
  ·rw[h5]at ih ⊢
   simp only[if_true]at ih ⊢
   simp only[cO,aM hlt2,h5,am hlt,aa,Int.toNat_natCast,hget,av hlt (show l.length≤1099511627776 by omega)]
   exact ih
  ·rcases Bool.eq_false_or_eq_true (f.1==(6:Int))with h6|h6
   ·rw[h5,h6]at ih ⊢
    simp only[if_true,Bool.false_eq_true,if_false]at ih ⊢
    simp only[cO,aM hlt2,h5,h6,am hlt,aa,Int.toNat_natCast,hget,av hlt (show l.length≤1099511627776 by omega)]
    exact ih
   ·rw[h5,h6]at ih ⊢
    simp only[Bool.false_eq_true,if_false]at ih ⊢
    simp only[cO,aM hlt2,h5,h6,am hlt,aa,Int.toNat_natCast,hget,av hlt (show l.length≤1099511627776 by omega)]
    exact ih
theorem Dq(l:List Int)(hl:l.length≤1000000)(f:al.T)(a b:Nat)(hab:a≤b)(hb:b≤l.length):e7 (l,f,(a:Int),(b:Int),())=some (.inr (chg (gF f) (b-a) a l,())):=by
 have ho:=xE l hl
 have e:=Uy f b (b-a) a l hl (by omega) hb
 have e':ac cO ((f.1,f.2.1,f.2.2.1,f.2.2.2.1,()),(b:Int),l,(a:Int),())=_:=e
 unfold e7
 simp only[ho]
 first|simp only[e]|simp only[e']
noncomputable def fJ(l:List Int)(f:al.T):List Int:=
 if f.1=1 then ue vt l f.2.1.toNat (f.2.1.toNat+1)
 else if f.1=2 then ue vt l f.2.1.toNat (f.2.1.toNat+f.2.2.1.toNat)
 else if f.1=3 then l.take (min f.2.1.toNat l.length)++l.drop (min (f.2.1.toNat+f.2.2.1.toNat) l.length)
 else if f.1=4 then(if f.2.1.toNat≤l.length then l.take f.2.1.toNat++List.replicate f.2.2.1.toNat f.2.2.2.1++l.drop f.2.1.toNat else l).take 8192
 else if f.1=5 then ue (fun _=>1) l f.2.1.toNat l.length
 else ue (fun _=>f.2.2.2.1) l f.2.1.toNat (f.2.1.toNat+f.2.2.1.toNat)
theorem vR {k a c v:Int}(h:eV (k,a,c,v,())=true):(k=1∨k=2∨k=3∨k=4∨k=5∨k=6)∧(∃n:Nat,a=(n:Int)∧n≤8192)∧(∃n:Nat,c=(n:Int)∧n≤8192∧((k=2∨k=3∨k=4∨k=6)→1≤n)):=by
 unfold eV at h
 simp only[Bool.and_eq_true]at h
 obtain⟨h1,h2,h3,_⟩:=h
 have h1:=bi.1 h1
 have h2:=bi.1 h2
 refine⟨by omega,⟨a.toNat,by omega,by omega⟩, ?_⟩
 by_cases hk:k=1∨k=5
 ·have:yN k=false:=by rcases hk with rfl|rfl<;>rfl
  rw[this]at h3
  have h3:c=0:=by simpa using h3
  exact⟨0,by omega,by omega,fun h=>by omega⟩
 ·have:yN k=true:=by
   unfold yN
   simp only[Bool.and_eq_true,bne_iff_ne]
   omega
  rw[this]at h3
  have h3:=bi.1 h3
  exact⟨c.toNat,by omega,by omega,fun _=>by omega⟩
theorem XK(l:List Int)(a c:Nat)(v:Int):fJ l ((4:Int),(a:Int),(c:Int),v,())=(if a≤l.length then l.take a++List.replicate c v++l.drop a else l).take 8192:=by
 unfold fJ
 rw[if_neg (show ¬(4:Int)=1 by decide),if_neg (show ¬(4:Int)=2 by decide),if_neg (show ¬(4:Int)=3 by decide),if_pos (show(4:Int)=4 from rfl)]
 simp only[Int.toNat_natCast]
theorem S5(l:List Int)(hl:l.length≤8192)(f:al.T)(hf:eV f=true):lm (l,f,())=some (fJ l f,()):=by
 obtain⟨(k:Int),(a:Int),(c:Int),(v:Int),⟨⟩⟩:=f
 obtain⟨hk,⟨a,rfl,ha⟩,⟨c,rfl,hc,hc1⟩⟩:=vR hf
 have hcl:=yG l (by omega)
 have w1:IntKind.i64.wrap ((a:Int)+1)=((a+1:Nat):Int):=by rw[wrap_i64]<;>omega
 have w2:IntKind.i64.wrap ((a:Int)+(c:Int))=((a+c:Nat):Int):=by rw[wrap_i64]<;>omega
 have q1:∀z,gY (z,())=some (vt z,()):=fun z=>rfl
 have q2:∀z,lL (z,())=some ((fun _=>(1:Int)) z,()):=fun z=>rfl
 have q3:∀z,(fun z:Int×Unit=>lM (z.1,(k,(a:Int),(c:Int),v,()),())) (z,())=some ((fun _=>v) z,()):=fun z=>rfl
 have c1:=vr gY vt q1 l (by omega) a (a+1) (by omega)
 have c2:=vr gY vt q1 l (by omega) a (a+c) (by omega)
 have c5:=vr lL (fun _=>1) q2 l (by omega) a l.length (by omega)
 have c6:=vr (fun z=>lM (z.1,(k,(a:Int),(c:Int),v,()),())) (fun _=>v) q3 l (by omega) a (a+c) (by omega)
 have m1:(if(a:Int)<(l.length:Int)then(a:Int)else(l.length:Int))=((min a l.length:Nat):Int):=by split<;>omega
 have m2:(if((a+c:Nat):Int)<(l.length:Int)then((a+c:Nat):Int)else(l.length:Int))=((min (a+c) l.length:Nat):Int):=by split<;>omega
 have cut:∀z:List Int,aC z.length none (some (.dat (.int .i64) (if(z.length:Int)<(8192:Int)then(z.length:Int)else(8192:Int))))=some (0,min z.length 8192):=fun z=>K4 _ _ _ (by split<;>omega) (Nat.min_le_left _ _)
 have cutT:∀z:List Int,List.drop 0 (List.take (min z.length 8192) z)=z.take 8192:=fun z=>by
  rw[List.drop_zero]
  by_cases hz:z.length≤8192
  ·rw[Nat.min_eq_left hz,List.take_of_length_le (Nat.le_refl _),List.take_of_length_le hz]
  ·rw[Nat.min_eq_right (by omega)]
 unfold lm
 simp only[hcl]
 rcases hk with rfl|rfl|rfl|rfl|rfl|rfl
 ·unfold fJ
  simp only[show((1:Int)==1)=true from rfl,w1,c1,if_true,Int.toNat_natCast]
 ·unfold fJ
  simp only[show((2:Int)==1)=false from rfl,show((2:Int)==2)=true from rfl,w2,c2,Int.toNat_natCast]
  rfl
 ·unfold fJ
  have hd:im (l,((min a l.length:Nat):Int),((min (a+c) l.length:Nat):Int),())=some (l.take (min a l.length)++l.drop (min (a+c) l.length),()):=by
   unfold im NM
   simp only[Int.toNat_natCast]
   rw[if_pos (by omega)]
   rfl
  simp only[show((3:Int)==1)=false from rfl,show((3:Int)==2)=false from rfl,show((3:Int)==3)=true from rfl,w2,m1,m2,hd,Int.toNat_natCast]
  rfl
 ·rw[XK]
  simp only[show((4:Int)==1)=false from rfl,show((4:Int)==2)=false from rfl,show((4:Int)==3)=false from rfl,show((4:Int)==4)=true from rfl,Int.toNat_natCast]
  by_cases hal:a≤l.length
  ·have hr:=VI [] v c (by simp;omega)
   rw[List.nil_append]at hr
   have hi:io (l,(a:Int),List.replicate c v,())=some (l.take a++List.replicate c v++l.drop a,()):=by
    unfold io NN
    simp only[Int.toNat_natCast,List.length_replicate]
    have:=hc1 (by omega)
    rw[if_pos (by omega)]
    rfl
   have hd:decide ((a:Int)≤(l.length:Int))=true:=decide_eq_true (by omega)
   rw[if_pos hal]
   simp only[hd,hr,hi]
   rw[cut]
   exact congrArg (fun z:List Int=>some (z,())) (cutT _)
  ·have hd:decide ((a:Int)≤(l.length:Int))=false:=decide_eq_false (by omega)
   rw[if_neg hal]
   simp only[hd]
   rw[cut]
   exact congrArg (fun z:List Int=>some (z,())) (cutT _)
 ·unfold fJ
  simp only[show((5:Int)==1)=false from rfl,show((5:Int)==2)=false from rfl,show((5:Int)==3)=false from rfl,show((5:Int)==4)=false from rfl,show((5:Int)==5)=true from rfl,c5,Int.toNat_natCast]
  rfl
 ·unfold fJ
  simp only[show((6:Int)==1)=false from rfl,show((6:Int)==2)=false from rfl,show((6:Int)==3)=false from rfl,show((6:Int)==4)=false from rfl,show((6:Int)==5)=false from rfl,show((6:Int)==6)=true from rfl,w2,Int.toNat_natCast]
  simp only[c6]
  rfl
theorem S6(l:List Int)(hl:l.length≤8192)(f:al.T)(hf:eV f=true):lE (l,f,())=some (fJ l f,()):=by
 obtain⟨(k:Int),(a:Int),(c:Int),(v:Int),⟨⟩⟩:=f
 obtain⟨hk,⟨a,rfl,ha⟩,⟨c,rfl,hc,hc1⟩⟩:=vR hf
 have w1:IntKind.i64.wrap ((a:Int)+1)=((a+1:Nat):Int):=by rw[wrap_i64]<;>omega
 have w2:IntKind.i64.wrap ((a:Int)+(c:Int))=((a+c:Nat):Int):=by rw[wrap_i64]<;>omega
 have m1:(if(a:Int)<(l.length:Int)then(a:Int)else(l.length:Int))=((min a l.length:Nat):Int):=by split<;>omega
 have m2:(if((a+c:Nat):Int)<(l.length:Int)then((a+c:Nat):Int)else(l.length:Int))=((min (a+c) l.length:Nat):Int):=by split<;>omega
 have m3:(if((a+1:Nat):Int)<(l.length:Int)then((a+1:Nat):Int)else(l.length:Int))=((min (a+1) l.length:Nat):Int):=by split<;>omega
 have cut:∀z:List Int,aC z.length none (some (.dat (.int .i64) (if(8192:Int)<(z.length:Int)then(8192:Int)else(z.length:Int))))=some (0,min z.length 8192):=fun z=>K4 _ _ _ (by split<;>omega) (Nat.min_le_left _ _)
 have cutT:∀z:List Int,List.drop 0 (List.take (min z.length 8192) z)=z.take 8192:=fun z=>by
  rw[List.drop_zero]
  by_cases hz:z.length≤8192
  ·rw[Nat.min_eq_left hz,List.take_of_length_le (Nat.le_refl _),List.take_of_length_le hz]
  ·rw[Nat.min_eq_right (by omega)]
 have b1:aC l.length none (some (.dat (.int .i64) ((min a l.length:Nat):Int)))=some (0,min a l.length):=K4 _ _ _ rfl (Nat.min_le_right _ _)
 have b2:aC l.length (some (.dat (.int .i64) ((min (a+c) l.length:Nat):Int))) none=some (min (a+c) l.length,l.length):=Py _ _ _ rfl (Nat.min_le_right _ _)
 have b3:aC l.length (some (.dat (.int .i64) ((min a l.length:Nat):Int))) none=some (min a l.length,l.length):=Py _ _ _ rfl (Nat.min_le_right _ _)
 have o0:=xE l (by omega)
 have o1:=xE (l.take (min a l.length)) (by rw[List.length_take];omega)
 have key:jm (l,(k,(a:Int),(c:Int),v,()),(l.length:Int),((min a l.length:Nat):Int),((min (a+c) l.length:Nat):Int),())=some (.inr (fJ l (k,(a:Int),(c:Int),v,()),())):=by
  unfold jm fJ
  rcases hk with rfl|rfl|rfl|rfl|rfl|rfl
  ·have h:=Dq l (by omega) ((1:Int),(a:Int),(c:Int),v,()) (min a l.length) (min (a+1) l.length) (by omega) (by omega)
   simp only[show((1:Int)==1)=true from rfl,w1,m3,h,if_true,Int.toNat_natCast]
   rfl
  ·have h:=Dq l (by omega) ((2:Int),(a:Int),(c:Int),v,()) (min a l.length) (min (a+c) l.length) (by omega) (by omega)
   simp only[show((2:Int)==1)=false from rfl,show((2:Int)==5)=false from rfl,show((2:Int)==3)=false from rfl,show((2:Int)==4)=false from rfl,h,Int.toNat_natCast]
   rfl
  ·simp only[show((3:Int)==1)=false from rfl,show((3:Int)==5)=false from rfl,show((3:Int)==3)=true from rfl,b1,b2,aa,List.drop_zero,List.take_length,o1,Int.toNat_natCast]
   rw[aE (by rw[List.length_take,List.length_drop];omega)]
   rfl
  ·simp only[show((4:Int)==1)=false from rfl,show((4:Int)==5)=false from rfl,show((4:Int)==3)=false from rfl,show((4:Int)==4)=true from rfl,Int.toNat_natCast]
   by_cases hal:a≤l.length
   ·have hd:decide ((a:Int)>(l.length:Int))=false:=decide_eq_false (by omega)
    have hr:=se c v (by omega)
    simp only[hd,b1,b3,aa,List.drop_zero,List.take_length,o1,hr]
    rw[aE (by rw[List.length_take,List.length_replicate];omega),aE (by rw[List.length_append,List.length_take,List.length_replicate,List.length_drop];omega)]
    simp only[cut,cutT]
    rw[if_pos hal,Nat.min_eq_left hal]
    rfl
   ·have hd:decide ((a:Int)>(l.length:Int))=true:=decide_eq_true (by omega)
    simp only[hd,o0,if_neg hal]
    rw[List.take_of_length_le hl]
    rfl
  ·have h:=Dq l (by omega) ((5:Int),(a:Int),(c:Int),v,()) (min a l.length) l.length (by omega) (Nat.le_refl _)
   simp only[show((5:Int)==1)=false from rfl,show((5:Int)==5)=true from rfl,h,Int.toNat_natCast]
   show _=some (Sum.inr (chg _ (min l.length l.length-min a l.length) (min a l.length) l,()))
   rw[Nat.min_self]
   rfl
  ·have h:=Dq l (by omega) ((6:Int),(a:Int),(c:Int),v,()) (min a l.length) (min (a+c) l.length) (by omega) (by omega)
   simp only[show((6:Int)==1)=false from rfl,show((6:Int)==5)=false from rfl,show((6:Int)==3)=false from rfl,show((6:Int)==4)=false from rfl,h,Int.toNat_natCast]
   rfl
 unfold lE
 simp only[w2,m1,m2,key]
 exact dY _
theorem vu(l:List Int)(hl:l.length≤8192)(f:al.T):(fJ l f).length≤8192:=by
 unfold fJ ue
 split
 ·rw[xJ];exact hl
 ·split
  ·rw[xJ];exact hl
  ·split
   ·rw[List.length_append,List.length_take,List.length_drop]
    omega
   ·split
    ·rw[List.length_take];exact Nat.min_le_left _ _
    ·split
     ·rw[xJ];exact hl
     ·rw[xJ];exact hl
noncomputable def es(l:List Int)(s:List al.T):List Int:=s.foldl fJ l
theorem Yc(s:List al.T)(l:List Int)(hl:l.length≤8192):(es l s).length≤8192:=nz (P:=fun z:List Int=>z.length≤8192) s l (fun z f _ hz=>vu z hz f) hl
theorem CZ {s:List al.T}(h:ep s=true):s.length≤30∧∀f ∈ s,eV f=true:=by
 unfold ep at h
 simp only[Bool.and_eq_true,decide_eq_true_eq,List.all_eq_true]at h
 exact⟨by omega,h.2⟩
theorem Pz(l:List Int)(hl:l.length≤8192)(s:List al.T)(hs:ep s=true):fD (l,s,())=some (es l s,()):=by
 obtain⟨h1,h2⟩:=CZ hs
 have hcl:=yG l (by omega)
 have e:=m8 (B:=el) s (fun z i=>(z,s,(s.length:Int),(i:Int),())) fJ (fun z=>.inl (z,())) (fun z=>z.length≤8192) (fun z f _ hz=>vu z hz f) (fun z _=>by simp only[el,aK]) (fun z i h hz=>by
  have hf:=S5 z hz s[i] (h2 _ (List.getElem_mem h))
  have hf':lm (z,(s[i].1,s[i].2.1,s[i].2.2.1,s[i].2.2.2.1,()),())=_:=hf
  simp only[el,aM h,av h (show s.length≤1099511627776 by omega),am h,aa]
  first|simp only[hf]|simp only[hf']) s.length 0 l (by omega) hl
 have e:ac el (l,s,(s.length:Int),(0:Int),())=_:=e
 unfold fD es
 simp only[hcl,e,List.drop_zero]
theorem PC(l:List Int)(hl:l.length≤8192)(s:List al.T)(hs:ep s=true):gK (l,s,())=some (es l s,()):=by
 obtain⟨h1,h2⟩:=CZ hs
 have hcl:=xE l (by omega)
 have e:=m8 (B:=fP) s (fun z i=>(s,z,(i:Int),())) fJ (fun z=>.inl (z,())) (fun z=>z.length≤8192) (fun z f _ hz=>vu z hz f) (fun z _=>by simp only[fP,aK]) (fun z i h hz=>by
  have hf:=S6 z hz s[i] (h2 _ (List.getElem_mem h))
  have hf':lE (z,(s[i].1,s[i].2.1,s[i].2.2.1,s[i].2.2.2.1,()),())=_:=hf
  simp only[fP,aM h,av h (show s.length≤1099511627776 by omega),am h,aa]
  first|simp only[hf]|simp only[hf']) s.length 0 l (by omega) hl
 have e:ac fP (s,l,(0:Int),())=_:=e
 unfold gK es
 simp only[hcl,e,List.drop_zero]
end Go.Proofs.YthfgmmmeplanbaaGreatDoor

import Derived.Test.YtkgcbbkodalfmaaGreatDoorQ2
namespace Go.Proofs.YtkgcbbkodalfmaaGreatDoor
open Go.RowKit
set_option linter.unusedVariables false
set_option linter.unusedSimpArgs false
theorem MJ {T R X O:Type}{B:X→Option (X ⊕ O)}(l:List T)(e:List R→Nat→X)(g:T→List R)(N c:Nat)(hg:∀v ∈ l,(g v).length≤c)(fin:List R→O)(hend:∀s,B (e s l.length)=some (.inr (fin s)))
  (hstep:∀s i (h:i<l.length),s.length≤N+i*c→B (e s i)=some (.inl (e (s++g l[i]) (i+1)))) (s:List R) (hs:s.length≤N):ac B (e s 0)=some (fin (s++l.flatMap g)):=by
 have key:∀(k i:Nat) (s:List R),i+k=l.length→s.length≤N+i*c→ac B (e s i)=some (fin (s++(l.drop i).flatMap g)):=by
  intro k
  induction k with
  |zero=>
   intro i s hi hs
   have:i=l.length:=by omega
   subst this
   rw[ag,hend]
   simp
  |succ k ih=>
   intro i s hi hs
   have h1:i<l.length:=by omega
   rw[ag,hstep s i h1 hs]
   simp only
   have hg1:=hg l[i] (List.getElem_mem h1)
   rw[ih (i+1) _ (by omega) (by rw[List.length_append,Nat.add_mul];omega),List.drop_eq_getElem_cons h1]
   simp only[List.flatMap_cons,List.append_assoc]
 have:=key l.length 0 s (by omega) (by omega)
 simpa using this
theorem U8:∀(l:List Int) (n:Int) (M:Nat),(∀b ∈ l,b=0∨b=1)→0≤n→n<M→M*2^l.length≤4611686018427387904→0≤l.foldl (fun n b=>IntKind.i64.wrap (IntKind.i64.wrap (2*n)+b)) n∧l.foldl (fun n b=>IntKind.i64.wrap (IntKind.i64.wrap (2*n)+b)) n<((M*2^l.length:Nat):Int)
 | [],n,M,_,h0,h1,_=>by
   show 0≤n∧n<((M*2^0:Nat):Int)
   rw[Nat.pow_zero,Nat.mul_one]
   exact⟨h0,h1⟩
 |b::l,n,M,hb,h0,h1,hk=>by
  have e:M*2^(l.length+1)=(2*M)*2^l.length:=by rw[Nat.pow_succ,Nat.mul_comm (2^l.length) 2,←Nat.mul_assoc,Nat.mul_comm M 2]
  have hk:M*2^(l.length+1)≤4611686018427387904:=hk
  rw[e]at hk
  have hM:2*M≤(2*M)*2^l.length:=Nat.le_mul_of_pos_right _ (Nat.two_pow_pos _)
  have hb0:=hb b (by simp)
  have w1:IntKind.i64.wrap (2*n)=2*n:=by rw[wrap_i64]<;>omega
  have w2:IntKind.i64.wrap (2*n+b)=2*n+b:=by rw[wrap_i64]<;>omega
  have ih:=U8 l (2*n+b) (2*M) (fun c hc=>hb c (by simp[hc])) (by omega) (by omega) hk
  show 0≤l.foldl _ (IntKind.i64.wrap (IntKind.i64.wrap (2*n)+b))∧l.foldl _ (IntKind.i64.wrap (IntKind.i64.wrap (2*n)+b))<((M*2^(l.length+1):Nat):Int)
  rw[w1,w2,e]
  exact ih
theorem acW(l:List Int)(h:∀b ∈ l,b=0∨b=1):∀v ∈ vV l,0≤v∧v≤255:=by
 intro v hv
 obtain⟨k,_,rfl⟩:=List.mem_map.1 hv
 have hl:(bU l k).length≤8:=by rw[oW];omega
 have hp:2^(bU l k).length≤2^8:=Nat.pow_le_pow_right (by omega) hl
 have:=U8 (bU l k) 0 1 (fun b hb=>h b (List.mem_of_mem_drop (List.mem_of_mem_take hb))) (by omega) (by omega) (by omega)
 unfold fW
 omega
theorem z7 {f:aB.T}(h:bm f=true):aP f.1 0 3=true∧aP f.2.1 0 7=true∧gr f.1 f.2.2.2.1.length=true∧ix f.2.2.2.1=true∧((f.1 != (0:Int))=true→bA f.2.2.1=true):=by
 unfold bm at h
 simp only[Bool.and_eq_true]at h
 obtain⟨h1,h2,h3,h4,h5⟩:=h
 refine⟨h1,h2,h3,h4,fun hk=> ?_⟩
 have hk0:(f.1==(0:Int))=false:=by simpa using hk
 rw[hk0]at h5
 simp only[Bool.false_eq_true,if_false]at h5
 split at h5
 ·simp only[Bool.and_eq_true]at h5
  exact h5.1
 ·exact h5
theorem Hg {f:aB.T}(h:bm f=true):(∀v ∈ bd f,0≤v∧v≤255)∧((bd f).length:Int)=nD f.1 f.2.2.2.1.length∧(bd f).length≤50:=by
 obtain⟨h1,h2,h3,h4,h5⟩:=z7 h
 have hd:=uq h
 have k1:=aY.1 h1
 have k2:=aY.1 h2
 obtain⟨(k:Int),(q:Int),st,(d:List Int),⟨⟩⟩:=f
 simp only at h1 h2 h3 h4 h5 hd k1 k2
 have w1:IntKind.i64.wrap (k*64)=k*64:=by rw[wrap_i64]<;>omega
 have w2:IntKind.i64.wrap (q*8)=q*8:=by rw[wrap_i64]<;>omega
 have w3:IntKind.i64.wrap (k*64+q*8)=k*64+q*8:=by rw[wrap_i64]<;>omega
 have hb:∀v ∈ d,0≤v∧v≤255:=by
  unfold ix at h4
  simp only[Bool.and_eq_true,List.all_eq_true]at h4
  exact fun v hv=>aY.1 (h4.2 v hv)
 have e:bd (k,q,st,d,())=([k*64+q*8]++(if k != (0:Int)then vV (kD st)else []))++(if dn k then(d.length:Int)::d else []):=by
  unfold bd
  simp only[w1,w2,w3]
 rw[e]
 refine⟨fun v hv=> ?_, ?_, ?_⟩
 ·simp only[List.mem_append,List.mem_singleton]at hv
  rcases hv with(rfl|hv)|hv
  ·omega
  ·split at hv
   ·rename_i hk
    exact acW _ (QG st (h5 hk)) v hv
   ·cases hv
  ·split at hv
   ·rcases List.mem_cons.1 hv with rfl|hv
    ·omega
    ·exact hb v hv
   ·cases hv
 ·unfold nD
  simp only[List.length_append]
  split<;>split<;>simp[hZ]<;>omega
 ·simp only[List.length_append]
  split<;>split<;>simp[hZ]<;>omega
def bJ(f:aB.T)(r:Nat)(st:ai.T):List Int:=bd f++ [((bl f.1 (bd f) r st / 65536:Nat):Int),((bl f.1 (bd f) r st / 256 % 256:Nat):Int),((bl f.1 (bd f) r st % 256:Nat):Int)]
theorem X6(f:aB.T)(r:Nat)(st:ai.T)(hf:bm f=true)(hr:r<16777216)(hst:bA st=true):Bh (f,(r:Int),st,())=some (bJ f r st,()):=by
 obtain⟨h1,_,h2⟩:=Hg hf
 have hb:gq (f,())=some (bd f,()):=XV (f,()) (by have:=uq hf;show f.2.2.2.1.length≤_;omega)
 have hc:=UW f.1 (bd f) r st (by omega) h1 hr hst
 have ht:=OE (bl f.1 (bd f) r st) (rI f.1 (bd f) r st hr)
 have e0:Bh (f,(r:Int),st,())=match gq (f,())with
  |none=>none
  |some v1=>match iZ (f.1,v1.1,(r:Int),st,())with
   |none=>none
   |some v2=>match kW (v2.1,())with
    |none=>none
    |some v3=>aI (v1.1.length+v3.1.length) (some ((v1.1++v3.1),())):=rfl
 rw[e0]
 simp only[hb,hc,ht]
 rw[aA (by simp;omega)]
 rfl
theorem X7(f:aB.T)(r:Nat)(st:ai.T)(hf:bm f=true)(hr:r<16777216)(hst:bA st=true):qa (f,(r:Int),st,())=some (bJ f r st,()):=by
 obtain⟨h1,_,h2⟩:=Hg hf
 have hb:bM (f,())=some (bd f,()):=XW (f,()) (by have:=uq hf;show f.2.2.2.1.length≤_;omega)
 have hc:=UX f.1 (bd f) r st (by omega) h1 hr hst
 have hn:=rI f.1 (bd f) r st hr
 have ht:=OE (bl f.1 (bd f) r st) hn
 generalize hq:bl f.1 (bd f) r st=q at hc hn ht
 have e1: [(IntKind.i64.wrap (Int.tdiv (q:Int) (65536:Int))),(Int.tmod (IntKind.i64.wrap (Int.tdiv (q:Int) (256:Int))) (256:Int)),(Int.tmod (q:Int) (256:Int))]= [((q / 65536:Nat):Int),((q / 256 % 256:Nat):Int),((q % 256:Nat):Int)]:=by
  have a1:Int.tdiv (q:Int) 65536=((q / 65536:Nat):Int):=rfl
  have a2:Int.tdiv (q:Int) 256=((q / 256:Nat):Int):=rfl
  have a3:Int.tmod (q:Int) 256=((q % 256:Nat):Int):=rfl
  have b1:IntKind.i64.wrap ((q / 65536:Nat):Int)=((q / 65536:Nat):Int):=by rw[wrap_i64]<;>omega
  have b2:IntKind.i64.wrap ((q / 256:Nat):Int)=((q / 256:Nat):Int):=by rw[wrap_i64]<;>omega
  rw[a1,a2,a3,b1,b2]
  rfl
 have e0:qa (f,(r:Int),st,())=match bM (f,())with
  |none=>none
  |some v1=>match ks (f.1,v1.1,(r:Int),st,())with
   |none=>none
   |some v2=>aI (v1.1.length+ [(IntKind.i64.wrap (Int.tdiv v2.1 (65536:Int))),(Int.tmod (IntKind.i64.wrap (Int.tdiv v2.1 (256:Int))) (256:Int)),(Int.tmod v2.1 (256:Int))].length) (some ((v1.1++ [(IntKind.i64.wrap (Int.tdiv v2.1 (65536:Int))),(Int.tmod (IntKind.i64.wrap (Int.tdiv v2.1 (256:Int))) (256:Int)),(Int.tmod v2.1 (256:Int))]),())):=rfl
 rw[e0]
 simp only[hb,hc,e1]
 rw[aA (by simp;omega)]
 unfold bJ
 rw[hq]
theorem BN {f:aB.T}{r:Nat}{st:ai.T}(hf:bm f=true)(hr:r<16777216):(∀v ∈ bJ f r st,0≤v∧v≤255)∧((bJ f r st).length:Int)=nD f.1 f.2.2.2.1.length+3∧(bJ f r st).length≤53:=by
 obtain⟨h1,h2,h3⟩:=Hg hf
 have hn:=rI f.1 (bd f) r st hr
 unfold bJ
 refine⟨fun v hv=> ?_, ?_, ?_⟩
 ·rcases List.mem_append.1 hv with hv|hv
  ·exact h1 v hv
  ·simp only[List.mem_cons,List.not_mem_nil,or_false]at hv
   rcases hv with rfl|rfl|rfl<;>omega
 ·simp only[List.length_append,List.length_cons,List.length_nil]
  omega
 ·simp only[List.length_append,List.length_cons,List.length_nil]
  omega
def fQ(l:List Int):List Int:=(List.replicate 8 (0:Int)++ [1])++l.flatMap (fun b=>[1,0]++aU b 8)++ [0,1]
theorem Ku(l:List Int):((List.replicate 8 (0:Int)++ [1])++l.flatMap (fun b=>[1,0]++aU b 8)).length=9+10*l.length:=by
 have:(l.flatMap (fun b=>[1,0]++aU b 8)).length=10*l.length:=by
  induction l with
  |nil=>rfl
  |cons b l ih=>
   rw[List.flatMap_cons,List.length_append,ih]
   simp only[List.length_append,List.length_cons,List.length_nil,dA]
   omega
 rw[List.length_append,this]
 simp only[List.length_append,List.length_replicate,List.length_cons,List.length_nil]
theorem sR(l:List Int):(fQ l).length=11+10*l.length:=by
 unfold fQ
 rw[List.length_append,Ku]
 simp only[List.length_cons,List.length_nil]
 omega
theorem U9 {l:List Int}(h:∀v ∈ l,0≤v∧v≤255):∀b ∈ fQ l,b=0∨b=1:=by
 intro b hb
 unfold fQ at hb
 simp only[List.mem_append,List.mem_replicate,List.mem_flatMap,List.mem_cons,List.not_mem_nil,or_false]at hb
 rcases hb with((⟨_,rfl⟩|rfl)|⟨v,hv,(rfl|rfl)|hb⟩)|(rfl|rfl)
 ·exact .inl rfl
 ·exact .inr rfl
 ·exact .inr rfl
 ·exact .inl rfl
 ·obtain⟨h0,h1⟩:=h v hv
  obtain⟨n,rfl⟩:=Int.eq_ofNat_of_zero_le h0
  exact Mz n (by omega) 8 b hb
 ·exact .inl rfl
 ·exact .inr rfl
theorem acX(l:List Int)(hl:l.length≤1000):ua (l,(8:Int),())=some (fQ l,()):=by
 have e:=MJ (B:=iY) l (fun s i=>(s,l,(l.length:Int),(i:Int),())) (fun b=>[1,0]++aU b 8) 9 10 (fun v _=>by simp[dA]) (fun s=>.inl (s,())) (fun s=>by simp only[iY,bp]) (fun s i h hs=>by
  have ha:=pG (s++ [1,0]) l[i] 8 (by omega) (by simp;omega)
  have ha:bP (s++ [1,0],l[i],(8:Int),())=_:=ha
  simp only[iY,a7 h,aG h (show l.length≤1099511627776 by omega),am h,ab]
  rw[aA (by simp;omega)]
  simp only[ha,List.append_assoc]) (List.replicate 8 (0:Int)++ [1]) (by simp)
 have e:ac iY ((List.replicate (8:Int).toNat (0:Int))++ [1],l,(l.length:Int),(0:Int),())=_:=e
 have hlen:=Ku l
 unfold ua
 simp only[e]
 rw[if_pos (show(0:Int)≤8∧(8:Int)≤8 from⟨by decide,by decide⟩),aA (by decide),aA (by decide),aA (by rw[hlen];show 9+10*l.length+2≤_;omega)]
 rfl
theorem acY(l:List Int)(hl:l.length≤1000):qQ (l,(8:Int),())=some (fQ l,()):=by
 have e:=MJ (B:=gP) l (fun s i=>(l,s,(i:Int),())) (fun b=>[1,0]++aU b 8) 9 10 (fun v _=>by simp[dA]) (fun s=>.inl (s,())) (fun s=>by simp only[gP,bp]) (fun s i h hs=>by
  have hd:List.drop i (List.take (i+1) l)= [l[i]]:=by
   rw[List.drop_take,Nat.add_sub_cancel_left,List.drop_eq_getElem_cons h]
   rfl
  have hb:=Ko [l[i]] (by simp)
  have hb1:dv [l[i]]=aU l[i] 8:=by simp[dv]
  have hbd:aH l.length (some (.dat (.int .i64) ((i:Nat):Int))) (some (.dat (.int .i64) (((i+1:Nat):Int))))=some (i,i+1):=by
   unfold aH
   simp[jY,js]
   omega
  simp only[gP,a7 h,aG h (show l.length≤1099511627776 by omega)]
  rw[aA (by simp;omega),hbd]
  simp only[ab,hd,hb,hb1]
  rw[aA (by simp[dA];omega)]
  simp only[List.append_assoc]) (List.replicate 8 (0:Int)++ [1]) (by simp)
 have e:ac gP (l,(List.replicate (8:Int).toNat (0:Int))++ [1],(0:Int),())=_:=e
 have hlen:=Ku l
 unfold qQ
 simp only[e]
 rw[if_pos (show(0:Int)≤8∧(8:Int)≤8 from⟨by decide,by decide⟩),aA (by decide),aA (by decide),aA (by rw[hlen];show 9+10*l.length+2≤_;omega)]
 rfl
end Go.Proofs.YtkgcbbkodalfmaaGreatDoor
namespace Go.Proofs.YtkgcbbkodalfmaaGreatDoor
open Go.RowKit
set_option linter.unusedVariables false
set_option linter.unusedSimpArgs false
theorem MK(n:Nat)(h:n≤1099511627776):qf ((n:Int),())=some (List.replicate n (1:Int),()):=by
 have hr:Nl [(1:Int)] (n:Int)=some (List.replicate n 1):=by
  show(if(0:Int)≤(n:Int)∧(n:Int)≤1099511627776 then some (List.replicate ((n:Int)).toNat (1:Int))else none)=_
  rw[if_pos ⟨by omega,by omega⟩,Int.toNat_natCast]
 have hs:jM ([(1:Int)],(n:Int),())=some (List.replicate n (1:Int),()):=by
  unfold jM
  simp only[hr,ab]
 unfold qf
 simp only[hs]
theorem SY(x:Int):∀(n:Nat) (acc:List Int),acc.length+n≤1099511627776→ac jm ((n:Int),x,acc,())=some (.inl (acc++List.replicate n x,()))
 |0,acc,_=>by
  rw[ag]
  have hd:decide (((0:Nat):Int)>0)=false:=by decide
  simp only[jm,hd,List.replicate_zero,List.append_nil]
 |n+1,acc,h=>by
  rw[ag]
  have hd:decide (((n+1:Nat):Int)>0)=true:=decide_eq_true (by omega)
  have hw:IntKind.i64.wrap (((n+1:Nat):Int)-1)=(n:Int):=by rw[wrap_i64]<;>omega
  simp only[jm,hd,hw]
  rw[aA (by show acc.length+1≤_;omega)]
  simp only
  rw[SY x n (acc++ [x]) (by simp;omega),List.append_assoc,List.singleton_append,List.replicate_succ]
theorem BO(n:Nat)(x:Int)(h:n≤1099511627776):fL ((n:Int),x,())=some (List.replicate n x,()):=by
 have e:=SY x n [] (by simp;omega)
 unfold fL
 simp only[e,List.nil_append]
theorem X8(v:Int)(n:Nat):∀(k i:Nat) (acc:List Int),i+k=n→acc.length+k≤1099511627776→n≤1099511627776→ac jC (acc,v,(n:Int),(i:Int),())=some (.inl (acc++List.replicate k v,()))
 |0,i,acc,hi,_,_=>by
  have hi:i=n:=by omega
  subst hi
  rw[ag]
  simp only[jC,bp,List.replicate_zero,List.append_nil]
 |k+1,i,acc,hi,h,hn=>by
  have hlt:i<n:=by omega
  rw[ag]
  simp only[jC,a7 hlt,aG hlt hn]
  rw[aA (by show acc.length+1≤_;omega)]
  simp only
  rw[X8 v n k (i+1) (acc++ [v]) (by omega) (by simp;omega) hn,List.append_assoc,List.singleton_append,List.replicate_succ]
theorem aam(acc:List Int)(v:Int)(n:Nat)(h:acc.length+n≤1099511627776):sz (acc,v,(n:Int),())=some (acc++List.replicate n v,()):=by
 have e:=X8 v n n 0 acc (by omega) h (by omega)
 have e:ac jC (acc,v,(n:Int),(0:Int),())=_:=e
 unfold sz
 simp only[e]
def aZ(l:List Int):List Int:=l.flatMap fun c=>List.replicate 8 c
theorem kA(l:List Int):(aZ l).length=8*l.length:=by
 unfold aZ
 induction l with
 |nil=>rfl
 |cons c l ih=>rw[List.flatMap_cons,List.length_append,ih,List.length_replicate,List.length_cons];omega
theorem ML {l:List Int}(h:∀b ∈ l,b=0∨b=1):∀b ∈ aZ l,b=0∨b=1:=by
 intro b hb
 unfold aZ at hb
 obtain⟨c,hc,hb⟩:=List.mem_flatMap.1 hb
 rw[(List.mem_replicate.1 hb).2]
 exact h c hc
theorem Kv {l:List Int}(h:∀b ∈ l,b=0∨b=1)(hl:l.length≤8192):bR l=true:=by
 unfold bR
 simp only[Bool.and_eq_true,List.all_eq_true,decide_eq_true_eq]
 refine⟨by omega,fun v hv=>aY.2 ?_⟩
 rcases h v hv with rfl|rfl<;>omega
theorem X9(l:List Int)(h:∀b ∈ l,b=0∨b=1)(hl:l.length≤1024):jD (l,())=some (aZ l,(0:Int),()):=by
 have hb:=GH l (by omega)
 rw[Kv h (by omega)]at hb
 have e:=MJ (B:=dU) l (fun s i=>(s,l,(l.length:Int),(i:Int),())) (fun c=>List.replicate 8 c) 0 8 (fun v _=>by simp) (fun s=>.inl (s,())) (fun s=>by simp only[dU,bp]) (fun s i h hs=>by
  have ha:sz (s,l[i],(8:Int),())=some (s++List.replicate 8 l[i],()):=aam s l[i] 8 (by omega)
  simp only[dU,a7 h,aG h (show l.length≤1099511627776 by omega),am h,ab,ha]) [] (by simp)
 have e:ac dU ([],l,(l.length:Int),(0:Int),())=_:=e
 have hw:decide (IntKind.i64.wrap ((l.length:Int)*8)>8192)=false:=by
  have:IntKind.i64.wrap ((l.length:Int)*8)=(l.length:Int)*8:=by rw[wrap_i64]<;>omega
  rw[this]
  exact decide_eq_false (by omega)
 unfold jD
 simp only[hb,Bool.not_true,hw,e,List.nil_append]
 rfl
theorem MM(l w:List Int)(j:Nat)(hj:j<l.length)(hj2:j<w.length)(hw:w[j]=8):∀(k i:Nat) (acc:List Int),i+k=8→acc.length+k≤1099511627776→ac fS (l,w,acc,(j:Int),(i:Int),())=some (.inl (l,w,acc++List.replicate k l[j],(j:Int),()))
 |0,i,acc,hi,_=>by
  have hi:i=8:=by omega
  subst hi
  rw[ag]
  have hd:decide (((8:Nat):Int)<8)=false:=by decide
  simp only[fS,am hj2,ab,hw,hd,List.replicate_zero,List.append_nil]
 |k+1,i,acc,hi,h=>by
  rw[ag]
  have hd:decide ((i:Int)<8)=true:=by simp;omega
  have hn:IntKind.i64.wrap ((i:Int)+1)=((i+1:Nat):Int):=by rw[wrap_i64]<;>omega
  simp only[fS,am hj2,am hj,ab,hw,hd,hn]
  rw[aA (by show acc.length+1≤_;omega)]
  simp only
  rw[MM l w j hj hj2 hw k (i+1) (acc++ [l[j]]) (by omega) (by simp;omega),List.append_assoc,List.singleton_append,List.replicate_succ]
theorem Ya(l:List Int)(hl:l.length≤1024):mD (l,())=some (aZ l,()):=by
 have hq:fL ((l.length:Int),(8:Int),())=some (List.replicate l.length (8:Int),()):=BO l.length 8 (by omega)
 have e:=MJ (B:=fT) l (fun s i=>(l,List.replicate l.length (8:Int),s,(i:Int),())) (fun c=>List.replicate 8 c) 0 8 (fun v _=>by simp) (fun s=>.inl (s,())) (fun s=>by simp only[fT,bp]) (fun s i h hs=>by
  have ha:ac fS (l,List.replicate l.length (8:Int),s,(i:Int),(0:Int),())=_:=MM l (List.replicate l.length (8:Int)) i h (by simpa using h) (by simp) 8 0 s (by omega) (by omega)
  simp only[fT,a7 h,ha,aG h (show l.length≤1099511627776 by omega)]) [] (by simp)
 have e:ac fT (l,List.replicate l.length (8:Int),[],(0:Int),())=_:=e
 unfold mD xo
 simp only[hq,e,List.nil_append]
 rfl
noncomputable def ig(m:an.T)(st:ai.T)(f:aB.T):Bool:=(bm f&&jQ (dW m st) f)&&(!(f.1 != (0:Int))||ex ai f.2.2.1 st)
theorem abh(d:dE.T)(f:aB.T)(hd:pH d=true)(hl:f.2.2.2.1.length≤1099511627776):jz (d,f,())=some (bm f&&jQ d f,()):=by
 have h1:gb (d,())=some (true,()):=by rw[←hd];exact X1 (d,())
 have h2:fC (f,())=some (bm f,()):=UV (f,()) hl
 have h3:xR (d,f,())=some (jQ d f,()):=U6 (d,f,())
 have e0:jz (d,f,())=match gb (d,())with
  |none=>none
  |some v1=>match v1.1 with
   |true=>match fC (f,())with
    |none=>none
    |some v2=>match v2.1 with
     |true=>match xR (d,f,())with
      |none=>none
      |some v3=>some (v3.1,())
     |false=>some (false,())
   |false=>some (false,()):=rfl
 rw[e0,h1]
 simp only[h2]
 cases bm f
 ·rfl
 ·simp only[h3,Bool.true_and]
theorem abi(d:dE.T)(f:aB.T)(hd:pH d=true)(hl:f.2.2.2.1.length≤1099511627776):dR (d,f,())=some (bm f&&jQ d f,()):=by
 have h1:eZ (d,())=some (true,()):=by rw[←hd];exact SO (d,())
 have h2:cU (f,())=some (bm f,()):=OC (f,()) hl
 cases hf:bm f with
 |true=>rw[U7 d f hd hf hl,Bool.true_and]
 |false=>
  rw[hf]at h2
  have e0:dR (d,f,())=match eZ (d,())with
   |none=>none
   |some v1=>match v1.1 with
    |true=>match cU (f,())with
     |none=>none
     |some v2=>match v2.1 with
      |true=>_
      |false=>some (false,())
    |false=>some (false,()):=rfl
  rw[e0,h1]
  simp only[h2]
  rfl
theorem acZ(m:an.T)(st:ai.T)(f:aB.T)(h:cu m=true)(hb:bb m st=true)(hl:f.2.2.2.1.length≤1099511627776):mS (m,st,f,())=some (ig m st f,()):=by
 obtain⟨_,hd,hq⟩:=lW m st h hb
 have hf:=abh (dW m st) f hq hl
 have e0:mS (m,st,f,())=match eC (m,st,())with
  |none=>none
  |some v1=>match jz (v1.1,f,())with
   |none=>none
   |some v2=>match v2.1 with
    |true=>match(!(f.1 != (0:Int)))with
     |true=>some (true,())
     |false=>some ((ex ai f.2.2.1 st),())
    |false=>some (false,()):=rfl
 rw[e0,hd]
 simp only[hf]
 unfold ig
 cases bm f&&jQ (dW m st) f<;>cases (!(f.1 != (0:Int)))<;>simp
theorem ac0(m:an.T)(st:ai.T)(f:aB.T)(h:cu m=true)(hb:bb m st=true)(hl:f.2.2.2.1.length≤1099511627776):lE (m,st,f,())=some (ig m st f,()):=by
 obtain⟨hd,_,hq⟩:=lW m st h hb
 have hf:=abi (dW m st) f hq hl
 have e0:lE (m,st,f,())=match iq (m,st,())with
  |none=>none
  |some v1=>match dR (v1.1,f,())with
   |none=>none
   |some v2=>match v2.1 with
    |true=>match(!(f.1 != (0:Int)))with
     |true=>some (true,())
     |false=>some ((ex ai f.2.2.1 st),())
    |false=>some (false,()):=rfl
 rw[e0,hd]
 simp only[hf]
 unfold ig
 cases bm f&&jQ (dW m st) f<;>cases (!(f.1 != (0:Int)))<;>simp
noncomputable def cn(m:an.T)(st:ai.T)(f:aB.T):Int:=match cu m with
 |false=>1
 |true=>match bb m st with
  |false=>2
  |true=>match ig m st f with
   |false=>5
   |true=>0
theorem abj(m:an.T)(st:ai.T)(f:aB.T)(hz:fH m)(hl:f.2.2.2.1.length≤1099511627776):ro (m,st,f,())=some (cn m st f,()):=by
 have hM:pw (m,())=_:=X4 m hz
 have e0:ro (m,st,f,())=match nq (m,st,())with
  |none=>none
  |some v1=>match(v1.1 != (0:Int))with
   |true=>some (v1.1,())
   |false=>match mS (m,st,f,())with
    |none=>none
    |some v2=>match(!v2.1)with
     |true=>some ((5:Int),())
     |false=>some ((0:Int),()):=rfl
 have e1:nq (m,st,())=match pw (m,())with
  |none=>none
  |some v1=>match(!v1.1)with
   |true=>some ((1:Int),())
   |false=>match qe (m,st,())with
    |none=>none
    |some v2=>match(!v2.1)with
     |true=>some ((2:Int),())
     |false=>some ((0:Int),()):=rfl
 rw[e0,e1,hM]
 unfold cn
 rcases Bool.eq_false_or_eq_true (cu m)with h1|h1<;>simp only[h1,Bool.not_true,Bool.not_false]
 ·have hB:=aal m st h1
  simp only[hB]
  rcases Bool.eq_false_or_eq_true (bb m st)with h2|h2<;>simp only[h2,Bool.not_true,Bool.not_false]
  ·have hS:=acZ m st f h1 h2 hl
   have k0:((0:Int) != 0)=false:=rfl
   simp only[k0,hS]
   cases ig m st f<;>rfl
  ·rfl
 ·rfl
theorem abk(m:an.T)(st:ai.T)(f:aB.T)(hz:fH m)(hl:f.2.2.2.1.length≤1099511627776):tS (m,st,f,())=some (cn m st f,()):=by
 have hM:jx (m,())=_:=MH m hz
 have e0:tS (m,st,f,())=match pY (m,st,())with
  |none=>none
  |some v1=>match(v1.1==(0:Int))with
   |true=>match lE (m,st,f,())with
    |none=>none
    |some v2=>match(!v2.1)with
     |true=>some ((5:Int),())
     |false=>some (v1.1,())
   |false=>some (v1.1,()):=rfl
 have e1:pY (m,st,())=match jx (m,())with
  |none=>none
  |some v1=>match(!v1.1)with
   |true=>some ((1:Int),())
   |false=>match ir (m,st,())with
    |none=>none
    |some v2=>match(!v2.1)with
     |true=>some ((2:Int),())
     |false=>some ((0:Int),()):=rfl
 rw[e0,e1,hM]
 unfold cn
 rcases Bool.eq_false_or_eq_true (cu m)with h1|h1<;>simp only[h1,Bool.not_true,Bool.not_false]
 ·have hB:=Wt m st h1
  simp only[hB]
  rcases Bool.eq_false_or_eq_true (bb m st)with h2|h2<;>simp only[h2,Bool.not_true,Bool.not_false]
  ·have hS:=ac0 m st f h1 h2 hl
   have k0:((0:Int)==0)=true:=rfl
   simp only[k0,hS]
   cases ig m st f<;>rfl
  ·rfl
 ·rfl
end Go.Proofs.YtkgcbbkodalfmaaGreatDoor
namespace Go.Proofs.YtkgcbbkodalfmaaGreatDoor
open Go.RowKit
set_option linter.unusedVariables false
set_option linter.unusedSimpArgs false
theorem ac1(n:Nat)(hn:n≤1099511627776):kG ((),(n:Int),())=some ([],()):=by
 unfold kG
 have w0:IntKind.i64.wrap ((0:Int)-0)=0:=by decide
 have w1:IntKind.i64.wrap ((n:Int)-0)=n:=by rw[Int.sub_zero,wrap_i64]<;>omega
 have n0:decide ((n:Int)<0)=false:=by simp
 simp only[w0,w1,n0]
 by_cases h:(n:Int)>0
 ·have b1:aH 0 none (some (.dat (.int .i64) (0:Int)))=some (0,0):=rfl
  have b2:aH (List.replicate ((n:Int).toNat) (0:Int)).length none (some (.dat (.int .i64) (0:Int)))=some (0,0):=by
   have hh:(0:Int)≤0∧(0:Int)≤0∧(0:Int)≤((List.replicate ((n:Int).toNat) (0:Int)).length:Int):=⟨by omega,by omega,by omega⟩
   simp only[aH,jY,js]
   exact if_pos hh
  have hp:(0:Int)≤(n:Int):=by omega
  simp only[decide_eq_true h,b1,ab,hp,if_true]
  rw[aA (by rw[Int.toNat_natCast];exact hn),b2]
  rfl
 ·simp only[decide_eq_false h]
theorem ZF(a b:List Int)(h:a.length+b.length≤1099511627776):gK ([a,b],())=some (a++b,()):=by
 unfold gK
 have w1:IntKind.i64.wrap ((0:Int)+(a.length:Int))=(a.length:Int):=by rw[Int.zero_add,wrap_i64]<;>omega
 have w2:IntKind.i64.wrap ((a.length:Int)+(b.length:Int))=((a.length+b.length:Nat):Int):=by rw[←Int.natCast_add,wrap_i64]<;>omega
 have n1:decide ((a.length:Int)<0)=false:=by simp
 have n2:decide (((a.length+b.length:Nat):Int)<0)=false:=by simp;omega
 have i0:aq [a,b] (0:Int)=some a:=rfl
 have i1:aq [a,b] (1:Int)=some b:=rfl
 have k1:IntKind.i64.wrap ((0:Int)+1)=1:=by decide
 have k2:IntKind.i64.wrap ((1:Int)+1)=2:=by decide
 have c0:decide ((0:Int)<2)=true:=by decide
 have c1:decide ((1:Int)<2)=true:=by decide
 have c2:decide ((2:Int)<2)=false:=by decide
 have e1:ac cJ ([a,b],(0:Int),[a,b],((2:Nat):Int),(0:Int),())=some (.inl ([a,b],((a.length+b.length:Nat):Int),())):=by
  rw[ag]
  simp only[cJ,i0,ab,w1,n1,k1,c0,show(((2:Nat):Int))=2 from rfl]
  rw[ag]
  simp only[cJ,i1,ab,w2,n2,k2,c1]
  rw[ag]
  simp only[cJ,c2]
 have e2:ac cC ([],[a,b],((2:Nat):Int),(0:Int),())=some (.inl (a++b,())):=by
  rw[ag]
  simp only[cC,i0,ab,k1,c0,show(((2:Nat):Int))=2 from rfl]
  rw[aA (by simp;omega)]
  simp only[List.nil_append]
  rw[ag]
  simp only[cC,i1,ab,k2,c1]
  rw[aA (by omega)]
  simp only
  rw[ag]
  simp only[cC,c2]
 have e1:ac cJ ([a,b],(0:Int),[a,b],(([a,b]:List (List Int)).length:Int),(0:Int),())=_:=e1
 have e2:ac cC ([],[a,b],(([a,b]:List (List Int)).length:Int),(0:Int),())=_:=e2
 simp only[e1,ac1 _ h,e2]
theorem wF {m:an.T}{st:ai.T}{f:aB.T}(h:ig m st f=true):bm f=true∧jQ (dW m st) f=true:=by
 unfold ig at h
 simp only[Bool.and_eq_true]at h
 exact h.1
theorem SZ {m:an.T}{st:ai.T}{f:aB.T}(r:Nat)(hr:r<16777216)(h:cu m=true)(hb:bb m st=true)(hs:ig m st f=true):
  ∃D:Nat,(dW m st).2.2.2.1=(D:Int)∧19+10*(bJ f r st).length+12≤D∧D≤1000:=by
 obtain⟨hf,ht⟩:=wF hs
 obtain⟨_,_,hq⟩:=lW m st h hb
 obtain⟨_,hl,_⟩:=BN (st:=st) hf hr
 generalize dW m st=d at hq ht
 unfold pH at hq
 unfold jQ at ht
 simp only[Bool.and_eq_true,beq_iff_eq]at hq ht
 obtain⟨q1,q2,q3,q4,q5⟩:=hq
 obtain⟨t1,t2,t3⟩:=ht
 have hsz:=CI q3
 have hbn:=Kr d.2.1 d.2.2.1 hsz.1 hsz.2
 rw[t1,t2]at hl
 have q5:=aY.1 q5
 have hc:BK d.2.1 d.2.2.1=11+10*(nD d.2.1 d.2.2.1+3):=rfl
 rw[hc]at q5
 generalize (bJ f r st).length=k at hl ⊢
 generalize nD d.2.1 d.2.2.1=bn at hl hbn q5
 have hw:IntKind.i64.wrap (11+10*(bn+3)+20)=11+10*(bn+3)+20:=by rw[wrap_i64]<;>omega
 rw[hw]at q5
 generalize d.2.2.2.1=D at q5
 have hD:(0:Int)≤D:=by omega
 obtain⟨D,rfl⟩:=Int.eq_ofNat_of_zero_le hD
 exact⟨D,rfl,by omega,by omega⟩
def bV(m:an.T)(st:ai.T)(f:aB.T):List Int:=(List.replicate 8 (1:Int)++fQ (bJ f m.1.toNat st))++List.replicate ((dW m st).2.2.2.1.toNat-(19+10*(bJ f m.1.toNat st).length)) 1
theorem wS {m:an.T}{st:ai.T}{f:aB.T}(h:cn m st f=0):cu m=true∧bb m st=true∧ig m st f=true:=by
 unfold cn at h
 cases h1:cu m<;>rw[h1]at h
 ·cases h
 ·cases h2:bb m st<;>rw[h2]at h
  ·cases h
  ·cases h3:ig m st f<;>rw[h3]at h
   ·cases h
   ·exact⟨rfl,rfl,rfl⟩
theorem GS {m:an.T}{st:ai.T}(h:bb m st=true):bA st=true:=by
 unfold bb at h
 simp only[Bool.and_eq_true]at h
 exact h.1
theorem sS {m:an.T}{st:ai.T}{f:aB.T}(h:cn m st f=0):(bV m st f).length≤1000∧∀b ∈ bV m st f,b=0∨b=1:=by
 obtain⟨h1,h2,h3⟩:=wS h
 obtain⟨r,hr,hr2⟩:=sQ h1
 obtain⟨D,hD,d1,d2⟩:=SZ r hr2 h1 h2 h3
 obtain⟨s1,_,_⟩:=BN (st:=st) (wF h3).1 hr2
 unfold bV
 rw[hD,hr,Int.toNat_natCast,Int.toNat_natCast]
 refine⟨?_,fun b hb=> ?_⟩
 ·rw[List.length_append,List.length_append,sR,List.length_replicate,List.length_replicate]
  omega
 ·simp only[List.mem_append,List.mem_replicate]at hb
  rcases hb with(⟨_,rfl⟩|hb)|⟨_,rfl⟩
  ·exact .inr rfl
  ·exact U9 s1 b hb
  ·exact .inr rfl
theorem Um(m:an.T)(st:ai.T)(f:aB.T)(hz:fH m)(hl:f.2.2.2.1.length≤1099511627776):oG (m,st,f,())=some (if cn m st f=0 then(bV m st f,(0:Int),())else([],cn m st f,())):=by
 have hc:=abj m st f hz hl
 have e0:oG (m,st,f,())=match ro (m,st,f,())with
  |none=>none
  |some v1=>match(v1.1 != (0:Int))with
   |true=>some ([],v1.1,())
   |false=>match qf ((8:Int),())with
    |none=>none
    |some v2=>match Bh (f,m.1,st,())with
     |none=>none
     |some v3=>match ua (v3.1,(8:Int),())with
      |none=>none
      |some v4=>match gK ([v2.1,v4.1],())with
       |none=>none
       |some v5=>match eC (m,st,())with
        |none=>none
        |some v6=>match qf ((IntKind.i64.wrap (v6.1.2.2.2.1-(v5.1.length:Int))),())with
         |none=>none
         |some v7=>aI (v5.1.length+v7.1.length) (some ((v5.1++v7.1),(0:Int),())):=rfl
 rw[e0,hc]
 by_cases h:cn m st f=0
 ·obtain⟨h1,h2,h3⟩:=wS h
  obtain⟨r,hr,hr2⟩:=sQ h1
  obtain⟨D,hD,d1,d2⟩:=SZ r hr2 h1 h2 h3
  have hf:=(wF h3).1
  obtain⟨s1,_,s2⟩:=BN (st:=st) hf hr2
  have k0:(cn m st f != 0)=false:=by rw[h];rfl
  have a1:qf ((8:Int),())=some (List.replicate 8 (1:Int),()):=MK 8 (by omega)
  have a2:Bh (f,m.1,st,())=some (bJ f r st,()):=by rw[hr];exact X6 f r st hf hr2 (GS h2)
  have a3:=acX (bJ f r st) (by omega)
  have hll:=sR (bJ f r st)
  have a4:=ZF (List.replicate 8 (1:Int)) (fQ (bJ f r st)) (by rw[List.length_replicate];omega)
  obtain⟨_,a5,_⟩:=lW m st h1 h2
  have hlen:(List.replicate 8 (1:Int)++fQ (bJ f r st)).length=19+10*(bJ f r st).length:=by rw[List.length_append,List.length_replicate,hll];omega
  have hw:IntKind.i64.wrap ((dW m st).2.2.2.1-(((List.replicate 8 (1:Int)++fQ (bJ f r st)).length:Nat):Int))=((D-(19+10*(bJ f r st).length):Nat):Int):=by
   rw[hlen,hD,wrap_i64]<;>omega
  have a6:=MK (D-(19+10*(bJ f r st).length)) (by omega)
  rw[if_pos h]
  simp only[k0,a1,a2,a3,a4,a5]
  have hw':IntKind.i64.wrap ((dW m st).2.2.2.1-((List.replicate 8 (1:Int)++fQ (bJ f r st)).length:Int))=((D-(19+10*(bJ f r st).length):Nat):Int):=hw
  rw[hw']
  simp only[a6]
  rw[aA (by rw[hlen,List.length_replicate];omega)]
  unfold bV
  rw[hD,hr,Int.toNat_natCast,Int.toNat_natCast]
 ·have k0:(cn m st f != 0)=true:=by simpa using h
  rw[if_neg h]
  simp only[k0]
theorem Un(m:an.T)(st:ai.T)(f:aB.T)(hz:fH m)(h:cn m st f=0):qS (m,st,f,())=some (bV m st f,()):=by
 obtain⟨h1,h2,h3⟩:=wS h
 obtain⟨r,hr,hr2⟩:=sQ h1
 obtain⟨D,hD,d1,d2⟩:=SZ r hr2 h1 h2 h3
 have hf:=(wF h3).1
 obtain⟨s1,_,s2⟩:=BN (st:=st) hf hr2
 have a1:fL ((8:Int),(1:Int),())=some (List.replicate 8 (1:Int),()):=BO 8 1 (by omega)
 have a2:qa (f,m.1,st,())=some (bJ f r st,()):=by rw[hr];exact X7 f r st hf hr2 (GS h2)
 have a3:=acY (bJ f r st) (by omega)
 have hll:=sR (bJ f r st)
 obtain⟨a5,_,_⟩:=lW m st h1 h2
 have hlen:(List.replicate 8 (1:Int)++fQ (bJ f r st)).length=19+10*(bJ f r st).length:=by rw[List.length_append,List.length_replicate,hll];omega
 have hw:IntKind.i64.wrap ((dW m st).2.2.2.1-(((List.replicate 8 (1:Int)++fQ (bJ f r st)).length:Nat):Int))=((D-(19+10*(bJ f r st).length):Nat):Int):=by
  rw[hlen,hD,wrap_i64]<;>omega
 have a6:=BO (D-(19+10*(bJ f r st).length)) 1 (by omega)
 have e0:qS (m,st,f,())=aX (
  match fL ((8:Int),(1:Int),())with
  |none=>none
  |some v1=>match qa (f,m.1,st,())with
   |none=>none
   |some v2=>match qQ (v2.1,(8:Int),())with
    |none=>none
    |some v3=>aI (v1.1.length+v3.1.length) (
     match iq (m,st,())with
     |none=>none
     |some v4=>match fL ((IntKind.i64.wrap (v4.1.2.2.2.1-((v1.1++v3.1).length:Int))),(1:Int),())with
      |none=>none
      |some v5=>aI ((v1.1++v3.1).length+v5.1.length) (some (((v1.1++v3.1)++v5.1),())))):=rfl
 rw[e0]
 simp only[a1,a2,a3,a5]
 have hw':IntKind.i64.wrap ((dW m st).2.2.2.1-((List.replicate 8 (1:Int)++fQ (bJ f r st)).length:Int))=((D-(19+10*(bJ f r st).length):Nat):Int):=hw
 rw[hw',aA (by rw[List.length_replicate,hll];omega)]
 simp only[a6]
 rw[aA (by rw[hlen,List.length_replicate];omega)]
 unfold bV
 rw[hD,hr,Int.toNat_natCast,Int.toNat_natCast]
 exact sK _
theorem Va(m:an.T)(st:ai.T)(f:aB.T)(hz:fH m)(hl:f.2.2.2.1.length≤1099511627776):i6 (m,st,f,())=some (if cn m st f=0 then(aZ (bV m st f),(0:Int),())else([],cn m st f,())):=by
 have hc:=Um m st f hz hl
 have e0:i6 (m,st,f,())=match oG (m,st,f,())with
  |none=>none
  |some v1=>match(v1.2.1 != (0:Int))with
   |true=>some ([],v1.2.1,())
   |false=>match jD (v1.1,())with
    |none=>none
    |some v2=>some v2:=rfl
 rw[e0,hc]
 by_cases h:cn m st f=0
 ·obtain⟨c1,c2⟩:=sS h
  have hn:=X9 (bV m st f) c2 (by omega)
  simp only[if_pos h,hn]
  rfl
 ·have k0:(cn m st f != 0)=true:=by simpa using h
  simp only[if_neg h,k0]
theorem Vb(m:an.T)(st:ai.T)(f:aB.T)(hz:fH m)(hl:f.2.2.2.1.length≤1099511627776):iR (m,st,f,())=some (if cn m st f=0 then(aZ (bV m st f),(0:Int),())else([],cn m st f,())):=by
 have hc:=abk m st f hz hl
 have e0:iR (m,st,f,())=match tS (m,st,f,())with
  |none=>none
  |some v1=>match(v1.1 != (0:Int))with
   |true=>some ([],v1.1,())
   |false=>match qS (m,st,f,())with
    |none=>none
    |some v2=>match mD (v2.1,())with
     |none=>none
     |some v3=>some (v3.1,(0:Int),()):=rfl
 rw[e0,hc]
 by_cases h:cn m st f=0
 ·obtain⟨c1,c2⟩:=sS h
  have hs:=Un m st f hz h
  have hn:=Ya (bV m st f) (by omega)
  have k0:(cn m st f != 0)=false:=by rw[h];rfl
  simp only[k0,hs,hn,if_pos h]
 ·have k0:(cn m st f != 0)=true:=by simpa using h
  simp only[if_neg h,k0]
end Go.Proofs.YtkgcbbkodalfmaaGreatDoor
namespace Go.Proofs.YtkgcbbkodalfmaaGreatDoor
open Go.RowKit
set_option linter.unusedVariables false
set_option linter.unusedSimpArgs false
def vd(k:Int):Bool:=(k != 1)&&(k != 5)
def yh(k:Int):Bool:=(k==4)||(k==6)
def dK(f:av.T):Bool:=aP f.1 1 6&&(aP f.2.1 0 8192&&((if vd f.1 then aP f.2.2.1 1 8192 else f.2.2.1==(0:Int))&&(if yh f.1 then aP f.2.2.2.1 0 1 else f.2.2.2.1==(0:Int))))
theorem ZG(x):tg x=some (vd x.1,()):=by
 unfold tg vd
 rcases Bool.eq_false_or_eq_true (x.1 != (1:Int))with h|h<;>simp only[h]<;>rfl
theorem ZH(x):rq x=some (yh x.1,()):=by
 unfold rq yh
 rcases Bool.eq_false_or_eq_true (x.1==(4:Int))with h|h<;>simp only[h]<;>rfl
theorem ZI(x):qg x=some (dK x.1,()):=by
 unfold qg dK
 simp only[rG,ZG,ZH]
 rcases Bool.eq_false_or_eq_true (aP x.1.1 1 6)with h1|h1<;>rcases Bool.eq_false_or_eq_true (aP x.1.2.1 0 8192)with h2|h2<;>rcases Bool.eq_false_or_eq_true (vd x.1.1)with h3|h3<;>rcases Bool.eq_false_or_eq_true (yh x.1.1)with h4|h4<;>rcases Bool.eq_false_or_eq_true (aP x.1.2.2.1 1 8192)with h5|h5<;>rcases Bool.eq_false_or_eq_true (x.1.2.2.1==(0:Int))with h6|h6<;>simp only[h1,h2,h3,h4,h5,h6]<;>rfl
theorem ZJ(k:Int)(h:aP k 1 6=true):lT (k,())=some (vd k,yh k,()):=by
 have:=aY.1 h
 have hk:k=1∨k=2∨k=3∨k=4∨k=5∨k=6:=by omega
 rcases hk with rfl|rfl|rfl|rfl|rfl|rfl<;>rfl
theorem S3(x):mF x=some (dK x.1,()):=by
 have hz:(aP x.1.2.2.2.1 0 1&&(x.1.2.2.2.1==(0:Int)))=(x.1.2.2.2.1==(0:Int)):=by
  rcases Bool.eq_false_or_eq_true (x.1.2.2.2.1==(0:Int))with h|h
  ·have h0:x.1.2.2.2.1=0:=by simpa using h
   rw[h0];rfl
  ·rw[h,Bool.and_false]
 unfold mF dK
 simp only[jS]
 rcases Bool.eq_false_or_eq_true (aP x.1.1 1 6)with h1|h1
 ·have hf:=ZJ x.1.1 h1
  simp only[h1,hf]
  rcases Bool.eq_false_or_eq_true (aP x.1.2.1 0 8192)with h2|h2<;>rcases Bool.eq_false_or_eq_true (vd x.1.1)with h3|h3<;>rcases Bool.eq_false_or_eq_true (yh x.1.1)with h4|h4<;>rcases Bool.eq_false_or_eq_true (aP x.1.2.2.1 1 8192)with h5|h5<;>rcases Bool.eq_false_or_eq_true (x.1.2.2.1==(0:Int))with h6|h6<;>rcases Bool.eq_false_or_eq_true (aP x.1.2.2.2.1 0 1)with h7|h7<;>rcases Bool.eq_false_or_eq_true (x.1.2.2.2.1==(0:Int))with h8|h8<;>simp only[h7,h8,Bool.false_and,Bool.true_and,reduceCtorEq]at hz<;>simp only[h2,h3,h4,h5,h6,h7,h8,bne]<;>rfl
 ·simp only[h1]
  rfl
def dp(l:List av.T):Bool:=decide ((l.length:Int)≤30)&&l.all dK
theorem Yb(l:List av.T)(hl:l.length≤1099511627776):ru (l,())=some (dp l,()):=by
 have e:=ki (B:=gV) l (fun i=>(l,(i:Int),())) dK (.inl (l,())) (.inr (false,())) (by simp only[gV,bp]) (fun i h=>by
  have hf:mF (l[i],())=some (dK l[i],()):=S3 (l[i],())
  simp only[gV,a7 h,aG h hl,am h,ab,hf]
  cases dK l[i]<;>simp)
 have e:ac gV (l,(0:Int),())=_:=e
 unfold ru dp
 simp only[e]
 cases l.all dK<;>simp
theorem Pu(l:List av.T)(hl:l.length≤1099511627776):ns (l,())=some (dp l,()):=by
 have hc:=BE l hl mW (fun f=> !dK f) (fun i h=>by
  have hf:qg (l[i],())=some (dK l[i],()):=ZI (l[i],())
  have e0:mW (l[i],())=match qg (l[i],())with
   |none=>none
   |some v1=>some ((!v1.1),()):=rfl
  rw[e0,hf])
 have e0:ns (l,())=match(decide ((l.length:Int)≤(30:Int)))with
  |true=>match dm (l,mW,())with
   |none=>none
   |some v1=>some ((!v1.1),())
  |false=>some (false,()):=rfl
 rw[e0,hc]
 unfold dp
 rw[BC]
 cases decide ((l.length:Int)≤30)
 ·rfl
 ·simp
def chg(g:Int→Int):Nat→Nat→List Int→List Int
 |0,_,l=>l
 |k+1,i,l=>chg g k (i+1) (l.set i (g (l.getD i 0)))
theorem sU(g:Int→Int):∀(k i:Nat) (l:List Int),(chg g k i l).length=l.length
 |0,_,_=>rfl
 |k+1,i,l=>by rw[chg,sU g k,List.length_set]
theorem Pv(by_:Int×Unit→Option (Int×Unit))(g:Int→Int)(hg:∀v,by_ (v,())=some (g v,()))(to:Int):∀(k i:Nat) (l:List Int),l.length≤1000000→((i+k:Nat):Int)=(if(l.length:Int)<to then(l.length:Int)else to)→ac iv (l,to,by_,(i:Int),())=some (.inl (chg g k i l,()))
 |0,i,l,hl,h=>by
  rw[ag]
  have hd:decide ((i:Int)<(if(l.length:Int)<to then(l.length:Int)else to))=false:=decide_eq_false (by omega)
  simp only[iv,hd]
  rfl
 |k+1,i,l,hl,h=>by
  have hlt:i<l.length:=by split at h<;>omega
  rw[ag]
  have hd:decide ((i:Int)<(if(l.length:Int)<to then(l.length:Int)else to))=true:=decide_eq_true (by omega)
  have hget:l[i]? =some l[i]:=List.getElem?_eq_getElem hlt
  simp only[iv,hd,am hlt,ab,Int.toNat_natCast,hget,hg,aG hlt (show l.length≤1099511627776 by omega)]
  have ih:=Pv by_ g hg to k (i+1) (l.set i (g l[i])) (by rw[List.length_set];exact hl) (by rw[List.length_set];omega)
  rw[ih,chg,List.getD_eq_getElem?_getD,hget]
  rfl
def ja(g:Int→Int)(l:List Int)(a b:Nat):List Int:=chg g (min b l.length-min a l.length) (min a l.length) l
theorem zu(by_:Int×Unit→Option (Int×Unit))(g:Int→Int)(hg:∀v,by_ (v,())=some (g v,()))(l:List Int)(hl:l.length≤1000000)(a b:Nat)(ha:a≤1000000):pB (l,(a:Int),(b:Int),by_,())=some (ja g l a b,()):=by
 have key:ac iv (l,(b:Int),by_,(a:Int),())=some (.inl (ja g l a b,())):=by
  by_cases h:a≤min b l.length
  ·have:=Pv by_ g hg (b:Int) (min b l.length-a) a l hl (by split<;>omega)
   rw[this]
   unfold ja
   rw[Nat.min_eq_left (show a≤l.length by omega)]
  ·rw[ag]
   have hd:decide ((a:Int)<(if(l.length:Int)<(b:Int)then(l.length:Int)else(b:Int)))=false:=decide_eq_false (by split<;>omega)
   simp only[iv,hd]
   unfold ja
   rw[show min b l.length-min a l.length=0 by omega]
   rfl
 unfold pB
 simp only[key]
end Go.Proofs.YtkgcbbkodalfmaaGreatDoor
namespace Go.Proofs.YtkgcbbkodalfmaaGreatDoor
open Go.RowKit
set_option linter.unusedVariables false
set_option linter.unusedSimpArgs false
def iH(v:Int):Int:=IntKind.i64.wrap (1-v)
def gF(f:av.T):Int→Int:=if(f.1==(5:Int))=true then fun _=>1 else if(f.1==(6:Int))=true then fun _=>f.2.2.2.1 else iH
theorem OM(n k:Nat)(e:Int)(he:e=(k:Int))(hk:k≤n):aH n none (some (.dat (.int .i64) e))=some (0,k):=by
 subst he
 simp only[aH,jY,js,vX]
 rw[if_pos (by omega)]
 simp
theorem S4(n k:Nat)(e:Int)(he:e=(k:Int))(hk:k≤n):aH n (some (.dat (.int .i64) e)) none=some (k,n):=by
 subst he
 simp only[aH,jY,js,vX]
 rw[if_pos (by omega)]
 simp
theorem Yc(f:av.T)(to:Nat):∀(k i:Nat) (l:List Int),l.length≤1000000→i+k=to→to≤l.length→ac dF (f,(to:Int),l,(i:Int),())=some (.inl (chg (gF f) k i l,()))
 |0,i,l,hl,h,ht=>by
  have h:i=to:=by omega
  subst h
  rw[ag]
  simp only[dF,bp]
  rfl
 |k+1,i,l,hl,h,ht=>by
  have hlt:i<l.length:=by omega
  have hlt2:i<to:=by omega
  have hget:l[i]? =some l[i]:=List.getElem?_eq_getElem hlt
  have hg:l.getD i 0=l[i]:=by rw[List.getD_eq_getElem?_getD,hget];rfl
  have ih:=Yc f to k (i+1) (l.set i (gF f l[i])) (by rw[List.length_set];exact hl) (by omega) (by rw[List.length_set];exact ht)
  rw[ag,chg,hg]
  unfold gF at ih ⊢
  rcases Bool.eq_false_or_eq_true (f.1==(5:Int))with h5|h5
  ·rw[h5]at ih ⊢
   simp only[if_true]at ih ⊢
   simp only[dF,a7 hlt2,h5,am hlt,ab,Int.toNat_natCast,hget,aG hlt (show l.length≤1099511627776 by omega)]
   exact ih
  ·rcases Bool.eq_false_or_eq_true (f.1==(6:Int))with h6|h6
   ·rw[h5,h6]at ih ⊢
    simp only[if_true,Bool.false_eq_true,if_false]at ih ⊢
    simp only[dF,a7 hlt2,h5,h6,am hlt,ab,Int.toNat_natCast,hget,aG hlt (show l.length≤1099511627776 by omega)]
    exact ih
   ·rw[h5,h6]at ih ⊢
    simp only[Bool.false_eq_true,if_false]at ih ⊢
    simp only[dF,a7 hlt2,h5,h6,am hlt,ab,Int.toNat_natCast,hget,aG hlt (show l.length≤1099511627776 by omega)]
    exact ih
theorem Hh(l:List Int)(hl:l.length≤1000000)(f:av.T)(a b:Nat)(hab:a≤b)(hb:b≤l.length):gm (l,f,(a:Int),(b:Int),())=some (.inr (chg (gF f) (b-a) a l,())):=by
 have ho:=BI l hl
 have e:=Yc f b (b-a) a l hl (by omega) hb
 have e':ac dF ((f.1,f.2.1,f.2.2.1,f.2.2.2.1,()),(b:Int),l,(a:Int),())=_:=e
 unfold gm
 simp only[ho]
 first|simp only[e]|simp only[e']
noncomputable def co(l:List Int)(f:av.T):List Int:=
 if f.1=1 then ja iH l f.2.1.toNat (f.2.1.toNat+1)
 else if f.1=2 then ja iH l f.2.1.toNat (f.2.1.toNat+f.2.2.1.toNat)
 else if f.1=3 then l.take (min f.2.1.toNat l.length)++l.drop (min (f.2.1.toNat+f.2.2.1.toNat) l.length)
 else if f.1=4 then(if f.2.1.toNat≤l.length then l.take f.2.1.toNat++List.replicate f.2.2.1.toNat f.2.2.2.1++l.drop f.2.1.toNat else l).take 8192
 else if f.1=5 then ja (fun _=>1) l f.2.1.toNat l.length
 else ja (fun _=>f.2.2.2.1) l f.2.1.toNat (f.2.1.toNat+f.2.2.1.toNat)
theorem tn {k a c v:Int}(h:dK (k,a,c,v,())=true):(k=1∨k=2∨k=3∨k=4∨k=5∨k=6)∧(∃n:Nat,a=(n:Int)∧n≤8192)∧(∃n:Nat,c=(n:Int)∧n≤8192∧((k=2∨k=3∨k=4∨k=6)→1≤n)):=by
 unfold dK at h
 simp only[Bool.and_eq_true]at h
 obtain⟨h1,h2,h3,_⟩:=h
 have h1:=aY.1 h1
 have h2:=aY.1 h2
 refine⟨by omega,⟨a.toNat,by omega,by omega⟩, ?_⟩
 by_cases hk:k=1∨k=5
 ·have:vd k=false:=by rcases hk with rfl|rfl<;>rfl
  rw[this]at h3
  have h3:c=0:=by simpa using h3
  exact⟨0,by omega,by omega,fun h=>by omega⟩
 ·have:vd k=true:=by
   unfold vd
   simp only[Bool.and_eq_true,bne_iff_ne]
   omega
  rw[this]at h3
  have h3:=aY.1 h3
  exact⟨c.toNat,by omega,by omega,fun _=>by omega⟩
theorem Yd(l:List Int)(a c:Nat)(v:Int):co l ((4:Int),(a:Int),(c:Int),v,())=(if a≤l.length then l.take a++List.replicate c v++l.drop a else l).take 8192:=by
 unfold co
 rw[if_neg (show ¬(4:Int)=1 by decide),if_neg (show ¬(4:Int)=2 by decide),if_neg (show ¬(4:Int)=3 by decide),if_pos (show(4:Int)=4 from rfl)]
 simp only[Int.toNat_natCast]
theorem MN(l:List Int)(hl:l.length≤8192)(f:av.T)(hf:dK f=true):jE (l,f,())=some (co l f,()):=by
 obtain⟨(k:Int),(a:Int),(c:Int),(v:Int),⟨⟩⟩:=f
 obtain⟨hk,⟨a,rfl,ha⟩,⟨c,rfl,hc,hc1⟩⟩:=tn hf
 have hcl:=CG l (by omega)
 have w1:IntKind.i64.wrap ((a:Int)+1)=((a+1:Nat):Int):=by rw[wrap_i64]<;>omega
 have w2:IntKind.i64.wrap ((a:Int)+(c:Int))=((a+c:Nat):Int):=by rw[wrap_i64]<;>omega
 have q1:∀z,jp (z,())=some (iH z,()):=fun z=>rfl
 have q2:∀z,nt (z,())=some ((fun _=>(1:Int)) z,()):=fun z=>rfl
 have q3:∀z,(fun z:Int×Unit=>nu (z.1,(k,(a:Int),(c:Int),v,()),())) (z,())=some ((fun _=>v) z,()):=fun z=>rfl
 have c1:=zu jp iH q1 l (by omega) a (a+1) (by omega)
 have c2:=zu jp iH q1 l (by omega) a (a+c) (by omega)
 have c5:=zu nt (fun _=>1) q2 l (by omega) a l.length (by omega)
 have c6:=zu (fun z=>nu (z.1,(k,(a:Int),(c:Int),v,()),())) (fun _=>v) q3 l (by omega) a (a+c) (by omega)
 have m1:(if(a:Int)<(l.length:Int)then(a:Int)else(l.length:Int))=((min a l.length:Nat):Int):=by split<;>omega
 have m2:(if((a+c:Nat):Int)<(l.length:Int)then((a+c:Nat):Int)else(l.length:Int))=((min (a+c) l.length:Nat):Int):=by split<;>omega
 have cut:∀z:List Int,aH z.length none (some (.dat (.int .i64) (if(z.length:Int)<(8192:Int)then(z.length:Int)else(8192:Int))))=some (0,min z.length 8192):=fun z=>OM _ _ _ (by split<;>omega) (Nat.min_le_left _ _)
 have cutT:∀z:List Int,List.drop 0 (List.take (min z.length 8192) z)=z.take 8192:=fun z=>by
  rw[List.drop_zero]
  by_cases hz:z.length≤8192
  ·rw[Nat.min_eq_left hz,List.take_of_length_le (Nat.le_refl _),List.take_of_length_le hz]
  ·rw[Nat.min_eq_right (by omega)]
 unfold jE
 simp only[hcl]
 rcases hk with rfl|rfl|rfl|rfl|rfl|rfl
 ·unfold co
  simp only[show((1:Int)==1)=true from rfl,w1,c1,if_true,Int.toNat_natCast]
 ·unfold co
  simp only[show((2:Int)==1)=false from rfl,show((2:Int)==2)=true from rfl,w2,c2,Int.toNat_natCast]
  rfl
 ·unfold co
  have hd:jN (l,((min a l.length:Nat):Int),((min (a+c) l.length:Nat):Int),())=some (l.take (min a l.length)++l.drop (min (a+c) l.length),()):=by
   unfold jN Rp
   simp only[Int.toNat_natCast]
   rw[if_pos (by omega)]
   rfl
  simp only[show((3:Int)==1)=false from rfl,show((3:Int)==2)=false from rfl,show((3:Int)==3)=true from rfl,w2,m1,m2,hd,Int.toNat_natCast]
  rfl
 ·rw[Yd]
  simp only[show((4:Int)==1)=false from rfl,show((4:Int)==2)=false from rfl,show((4:Int)==3)=false from rfl,show((4:Int)==4)=true from rfl,Int.toNat_natCast]
  by_cases hal:a≤l.length
  ·have hr:=aam [] v c (by simp;omega)
   rw[List.nil_append]at hr
   have hi:jO (l,(a:Int),List.replicate c v,())=some (l.take a++List.replicate c v++l.drop a,()):=by
    unfold jO Rq
    simp only[Int.toNat_natCast,List.length_replicate]
    have:=hc1 (by omega)
    rw[if_pos (by omega)]
    rfl
   have hd:decide ((a:Int)≤(l.length:Int))=true:=decide_eq_true (by omega)
   rw[if_pos hal]
   simp only[hd,hr,hi]
   rw[cut]
   exact congrArg (fun z:List Int=>some (z,())) (cutT _)
  ·have hd:decide ((a:Int)≤(l.length:Int))=false:=decide_eq_false (by omega)
   rw[if_neg hal]
   simp only[hd]
   rw[cut]
   exact congrArg (fun z:List Int=>some (z,())) (cutT _)
 ·unfold co
  simp only[show((5:Int)==1)=false from rfl,show((5:Int)==2)=false from rfl,show((5:Int)==3)=false from rfl,show((5:Int)==4)=false from rfl,show((5:Int)==5)=true from rfl,c5,Int.toNat_natCast]
  rfl
 ·unfold co
  simp only[show((6:Int)==1)=false from rfl,show((6:Int)==2)=false from rfl,show((6:Int)==3)=false from rfl,show((6:Int)==4)=false from rfl,show((6:Int)==5)=false from rfl,show((6:Int)==6)=true from rfl,w2,Int.toNat_natCast]
  simp only[c6]
  rfl
theorem MO(l:List Int)(hl:l.length≤8192)(f:av.T)(hf:dK f=true):gn (l,f,())=some (co l f,()):=by
 obtain⟨(k:Int),(a:Int),(c:Int),(v:Int),⟨⟩⟩:=f
 obtain⟨hk,⟨a,rfl,ha⟩,⟨c,rfl,hc,hc1⟩⟩:=tn hf
 have w1:IntKind.i64.wrap ((a:Int)+1)=((a+1:Nat):Int):=by rw[wrap_i64]<;>omega
 have w2:IntKind.i64.wrap ((a:Int)+(c:Int))=((a+c:Nat):Int):=by rw[wrap_i64]<;>omega
 have m1:(if(a:Int)<(l.length:Int)then(a:Int)else(l.length:Int))=((min a l.length:Nat):Int):=by split<;>omega
 have m2:(if((a+c:Nat):Int)<(l.length:Int)then((a+c:Nat):Int)else(l.length:Int))=((min (a+c) l.length:Nat):Int):=by split<;>omega
 have m3:(if((a+1:Nat):Int)<(l.length:Int)then((a+1:Nat):Int)else(l.length:Int))=((min (a+1) l.length:Nat):Int):=by split<;>omega
 have cut:∀z:List Int,aH z.length none (some (.dat (.int .i64) (if(8192:Int)<(z.length:Int)then(8192:Int)else(z.length:Int))))=some (0,min z.length 8192):=fun z=>OM _ _ _ (by split<;>omega) (Nat.min_le_left _ _)
 have cutT:∀z:List Int,List.drop 0 (List.take (min z.length 8192) z)=z.take 8192:=fun z=>by
  rw[List.drop_zero]
  by_cases hz:z.length≤8192
  ·rw[Nat.min_eq_left hz,List.take_of_length_le (Nat.le_refl _),List.take_of_length_le hz]
  ·rw[Nat.min_eq_right (by omega)]
 have b1:aH l.length none (some (.dat (.int .i64) ((min a l.length:Nat):Int)))=some (0,min a l.length):=OM _ _ _ rfl (Nat.min_le_right _ _)
 have b2:aH l.length (some (.dat (.int .i64) ((min (a+c) l.length:Nat):Int))) none=some (min (a+c) l.length,l.length):=S4 _ _ _ rfl (Nat.min_le_right _ _)
 have b3:aH l.length (some (.dat (.int .i64) ((min a l.length:Nat):Int))) none=some (min a l.length,l.length):=S4 _ _ _ rfl (Nat.min_le_right _ _)
 have o0:=BI l (by omega)
 have o1:=BI (l.take (min a l.length)) (by rw[List.length_take];omega)
 have key:kP (l,(k,(a:Int),(c:Int),v,()),(l.length:Int),((min a l.length:Nat):Int),((min (a+c) l.length:Nat):Int),())=some (.inr (co l (k,(a:Int),(c:Int),v,()),())):=by
  unfold kP co
  rcases hk with rfl|rfl|rfl|rfl|rfl|rfl
  ·have h:=Hh l (by omega) ((1:Int),(a:Int),(c:Int),v,()) (min a l.length) (min (a+1) l.length) (by omega) (by omega)
   simp only[show((1:Int)==1)=true from rfl,w1,m3,h,if_true,Int.toNat_natCast]
   rfl
  ·have h:=Hh l (by omega) ((2:Int),(a:Int),(c:Int),v,()) (min a l.length) (min (a+c) l.length) (by omega) (by omega)
   simp only[show((2:Int)==1)=false from rfl,show((2:Int)==5)=false from rfl,show((2:Int)==3)=false from rfl,show((2:Int)==4)=false from rfl,h,Int.toNat_natCast]
   rfl
  ·simp only[show((3:Int)==1)=false from rfl,show((3:Int)==5)=false from rfl,show((3:Int)==3)=true from rfl,b1,b2,ab,List.drop_zero,List.take_length,o1,Int.toNat_natCast]
   rw[aA (by rw[List.length_take,List.length_drop];omega)]
   rfl
  ·simp only[show((4:Int)==1)=false from rfl,show((4:Int)==5)=false from rfl,show((4:Int)==3)=false from rfl,show((4:Int)==4)=true from rfl,Int.toNat_natCast]
   by_cases hal:a≤l.length
   ·have hd:decide ((a:Int)>(l.length:Int))=false:=decide_eq_false (by omega)
    have hr:=BO c v (by omega)
    simp only[hd,b1,b3,ab,List.drop_zero,List.take_length,o1,hr]
    rw[aA (by rw[List.length_take,List.length_replicate];omega),aA (by rw[List.length_append,List.length_take,List.length_replicate,List.length_drop];omega)]
    simp only[cut,cutT]
    rw[if_pos hal,Nat.min_eq_left hal]
    rfl
   ·have hd:decide ((a:Int)>(l.length:Int))=true:=decide_eq_true (by omega)
    simp only[hd,o0,if_neg hal]
    rw[List.take_of_length_le hl]
    rfl
  ·have h:=Hh l (by omega) ((5:Int),(a:Int),(c:Int),v,()) (min a l.length) l.length (by omega) (Nat.le_refl _)
   simp only[show((5:Int)==1)=false from rfl,show((5:Int)==5)=true from rfl,h,Int.toNat_natCast]
   show _=some (Sum.inr (chg _ (min l.length l.length-min a l.length) (min a l.length) l,()))
   rw[Nat.min_self]
   rfl
  ·have h:=Hh l (by omega) ((6:Int),(a:Int),(c:Int),v,()) (min a l.length) (min (a+c) l.length) (by omega) (by omega)
   simp only[show((6:Int)==1)=false from rfl,show((6:Int)==5)=false from rfl,show((6:Int)==3)=false from rfl,show((6:Int)==4)=false from rfl,h,Int.toNat_natCast]
   rfl
 unfold gn
 simp only[w2,m1,m2,key]
 exact sK _
theorem ur(l:List Int)(hl:l.length≤8192)(f:av.T):(co l f).length≤8192:=by
 unfold co ja
 split
 ·rw[sU];exact hl
 ·split
  ·rw[sU];exact hl
  ·split
   ·rw[List.length_append,List.length_take,List.length_drop]
    omega
   ·split
    ·rw[List.length_take];exact Nat.min_le_left _ _
    ·split
     ·rw[sU];exact hl
     ·rw[sU];exact hl
noncomputable def dL(l:List Int)(s:List av.T):List Int:=s.foldl co l
theorem Wx(s:List av.T)(l:List Int)(hl:l.length≤8192):(dL l s).length≤8192:=nf (P:=fun z:List Int=>z.length≤8192) s l (fun z f _ hz=>ur z hz f) hl
theorem rM {s:List av.T}(h:dp s=true):s.length≤30∧∀f ∈ s,dK f=true:=by
 unfold dp at h
 simp only[Bool.and_eq_true,decide_eq_true_eq,List.all_eq_true]at h
 exact⟨by omega,h.2⟩
theorem ZK(l:List Int)(hl:l.length≤8192)(s:List av.T)(hs:dp s=true):lL (l,s,())=some (dL l s,()):=by
 obtain⟨h1,h2⟩:=rM hs
 have hcl:=CG l (by omega)
 have e:=nd (B:=fw) s (fun z i=>(z,s,(s.length:Int),(i:Int),())) co (fun z=>.inl (z,())) (fun z=>z.length≤8192) (fun z f _ hz=>ur z hz f) (fun z _=>by simp only[fw,bp]) (fun z i h hz=>by
  have hf:=MN z hz s[i] (h2 _ (List.getElem_mem h))
  have hf':jE (z,(s[i].1,s[i].2.1,s[i].2.2.1,s[i].2.2.2.1,()),())=_:=hf
  simp only[fw,a7 h,aG h (show s.length≤1099511627776 by omega),am h,ab]
  first|simp only[hf]|simp only[hf']) s.length 0 l (by omega) hl
 have e:ac fw (l,s,(s.length:Int),(0:Int),())=_:=e
 unfold lL dL
 simp only[hcl,e,List.drop_zero]
theorem ZL(l:List Int)(hl:l.length≤8192)(s:List av.T)(hs:dp s=true):jg (l,s,())=some (dL l s,()):=by
 obtain⟨h1,h2⟩:=rM hs
 have hcl:=BI l (by omega)
 have e:=nd (B:=gW) s (fun z i=>(s,z,(i:Int),())) co (fun z=>.inl (z,())) (fun z=>z.length≤8192) (fun z f _ hz=>ur z hz f) (fun z _=>by simp only[gW,bp]) (fun z i h hz=>by
  have hf:=MO z hz s[i] (h2 _ (List.getElem_mem h))
  have hf':gn (z,(s[i].1,s[i].2.1,s[i].2.2.1,s[i].2.2.2.1,()),())=_:=hf
  simp only[gW,a7 h,aG h (show s.length≤1099511627776 by omega),am h,ab]
  first|simp only[hf]|simp only[hf']) s.length 0 l (by omega) hl
 have e:ac gW (s,l,(0:Int),())=_:=e
 unfold jg dL
 simp only[hcl,e,List.drop_zero]
end Go.Proofs.YtkgcbbkodalfmaaGreatDoor
namespace Go.Proofs.YtkgcbbkodalfmaaGreatDoor
open Go.RowKit
set_option linter.unusedVariables false
set_option linter.unusedSimpArgs false
noncomputable def gJ(m:an.T)(st:ai.T)(f:aB.T)(s:List av.T):List Int×Int×Unit:=if cn m st f=0 then(match dp s with|true=>(dL (aZ (bV m st f)) s,(0:Int),())|false=>([],(3:Int),()))else([],cn m st f,())
theorem yi {m:an.T}{st:ai.T}{f:aB.T}(h:cn m st f=0):(aZ (bV m st f)).length≤8192:=by
 have:=(sS h).1
 rw[kA]
 omega
theorem Hi(m:an.T)(st:ai.T)(f:aB.T)(s:List av.T):(gJ m st f s).1.length≤8192:=by
 unfold gJ
 split
 ·rename_i h
  split
  ·exact Wx s _ (yi h)
  ·exact Nat.zero_le _
 ·exact Nat.zero_le _
theorem aan(m:an.T)(st:ai.T)(f:aB.T)(s:List av.T)(hz:fH m)(hl:f.2.2.2.1.length≤1099511627776)(hs:s.length≤1099511627776):gU (m,st,f,s,())=some (gJ m st f s):=by
 have h1:=Va m st f hz hl
 have h2:=Pu s hs
 have e0:gU (m,st,f,s,())=match i6 (m,st,f,())with
  |none=>none
  |some v1=>match(v1.2.1 != (0:Int))with
   |true=>some ([],v1.2.1,())
   |false=>match ns (s,())with
    |none=>none
    |some v2=>match(!v2.1)with
     |true=>some ([],(3:Int),())
     |false=>match lL (v1.1,s,())with
      |none=>none
      |some v3=>some (v3.1,(0:Int),()):=rfl
 rw[e0,h1]
 unfold gJ
 by_cases h:cn m st f=0
 ·have k0:((0:Int) != 0)=false:=rfl
  simp only[if_pos h,k0,h2]
  cases hb:dp s
  ·rfl
  ·have h3:=ZK (aZ (bV m st f)) (yi h) s hb
   simp only[Bool.not_true,h3]
 ·have k0:(cn m st f != 0)=true:=by simpa using h
  simp only[if_neg h,k0]
theorem aao(m:an.T)(st:ai.T)(f:aB.T)(s:List av.T)(hz:fH m)(hl:f.2.2.2.1.length≤1099511627776)(hs:s.length≤1099511627776):gX (m,st,f,s,())=some (gJ m st f s):=by
 have h1:=Vb m st f hz hl
 have h2:=Yb s hs
 have e0:gX (m,st,f,s,())=match iR (m,st,f,())with
  |none=>none
  |some v1=>match(v1.2.1==(0:Int))with
   |true=>match ru (s,())with
    |none=>none
    |some v2=>match(!v2.1)with
     |true=>match((3:Int) != (0:Int))with
      |true=>some ([],(3:Int),())
      |false=>match jg (v1.1,s,())with
       |none=>none
       |some v3=>some (v3.1,(0:Int),())
     |false=>match(v1.2.1 != (0:Int))with
      |true=>some ([],v1.2.1,())
      |false=>match jg (v1.1,s,())with
       |none=>none
       |some v4=>some (v4.1,(0:Int),())
   |false=>match(v1.2.1 != (0:Int))with
    |true=>some ([],v1.2.1,())
    |false=>match jg (v1.1,s,())with
     |none=>none
     |some v5=>some (v5.1,(0:Int),()):=rfl
 rw[e0,h1]
 unfold gJ
 by_cases h:cn m st f=0
 ·have k0:((0:Int) != 0)=false:=rfl
  have k1:((0:Int)==0)=true:=rfl
  have k3:((3:Int) != 0)=true:=rfl
  simp only[if_pos h,k0,k1,h2]
  cases hb:dp s
  ·simp only[Bool.not_false,k3]
  ·have h3:=ZL (aZ (bV m st f)) (yi h) s hb
   simp only[Bool.not_true,h3]
 ·have k0:(cn m st f != 0)=true:=by simpa using h
  have k1:(cn m st f==0)=false:=by simpa using h
  simp only[if_neg h,k0,k1]
noncomputable def mh(m:an.T)(st:ai.T)(f:aB.T)(s1 s2:List av.T):cA.T×Int×Unit:=match(gJ m st f s1).2.1 != (0:Int)with
 |true=>(cq 0,(gJ m st f s1).2.1,())
 |false=>match(gJ m st f s2).2.1 != (0:Int)with
  |true=>(cq 0,(gJ m st f s2).2.1,())
  |false=>zr m st (gJ m st f s1).1 (gJ m st f s2).1
theorem ON(m:an.T)(st:ai.T)(f:aB.T)(s1 s2:List av.T)(hz:fH m)(hl:f.2.2.2.1.length≤1099511627776)(hs1:s1.length≤1099511627776)(hs2:s2.length≤1099511627776):jf (m,st,f,s1,s2,())=some (mh m st f s1 s2):=by
 have h1:=aan m st f s1 hz hl hs1
 have h2:=aan m st f s2 hz hl hs2
 have l1:=Hi m st f s1
 have l2:=Hi m st f s2
 have h3:=acU m st (gJ m st f s1).1 (gJ m st f s2).1 hz (by omega) (by omega)
 have e0:jf (m,st,f,s1,s2,())=match gU (m,st,f,s1,())with
  |none=>none
  |some v1=>match(v1.2.1 != (0:Int))with
   |true=>some (cq 0,v1.2.1,())
   |false=>match gU (m,st,f,s2,())with
    |none=>none
    |some v2=>match(v2.2.1 != (0:Int))with
     |true=>some (cq 0,v2.2.1,())
     |false=>match lN (m,st,v1.1,v2.1,())with
      |none=>none
      |some v3=>some v3:=rfl
 rw[e0,h1]
 unfold mh
 simp only[h2,h3]
 rcases Bool.eq_false_or_eq_true ((gJ m st f s1).2.1 != (0:Int))with g|g<;>simp only[g]
 rcases Bool.eq_false_or_eq_true ((gJ m st f s2).2.1 != (0:Int))with g2|g2<;>simp only[g2]
theorem abl(m:an.T)(st:ai.T)(f:aB.T)(s1 s2:List av.T)(hz:fH m)(hl:f.2.2.2.1.length≤1099511627776)(hs1:s1.length≤1099511627776)(hs2:s2.length≤1099511627776):rC (m,st,f,s1,s2,())=some (mh m st f s1 s2):=by
 have h1:=aao m st f s1 hz hl hs1
 have h2:=aao m st f s2 hz hl hs2
 have l1:=Hi m st f s1
 have l2:=Hi m st f s2
 have h3:=acV m st (gJ m st f s1).1 (gJ m st f s2).1 hz (by omega) (by omega)
 have e0:rC (m,st,f,s1,s2,())=match gX (m,st,f,s1,())with
  |none=>none
  |some v1=>match(v1.2.1 != (0:Int))with
   |true=>some (cq 0,v1.2.1,())
   |false=>match gX (m,st,f,s2,())with
    |none=>none
    |some v2=>match(v2.2.1 != (0:Int))with
     |true=>some (cq 0,v2.2.1,())
     |false=>match lP (m,st,v1.1,v2.1,())with
      |none=>none
      |some v3=>some v3:=rfl
 rw[e0,h1]
 unfold mh
 simp only[h2,h3]
 rcases Bool.eq_false_or_eq_true ((gJ m st f s1).2.1 != (0:Int))with g|g<;>simp only[g]
 rcases Bool.eq_false_or_eq_true ((gJ m st f s2).2.1 != (0:Int))with g2|g2<;>simp only[g2]
theorem Ye(m:an.T)(st:ai.T)(f:aB.T)(s1 s2:List av.T):(mh m st f s1 s2).1.2.1.2.2.2.1.length≤32:=by
 unfold mh
 split
 ·exact Nat.zero_le _
 ·split
  ·exact Nat.zero_le _
  ·exact X5 m st _ _
end Go.Proofs.YtkgcbbkodalfmaaGreatDoor
namespace Go.Proofs.YtkgcbbkodalfmaaGreatDoor
open Go.RowKit
set_option linter.unusedVariables false
set_option linter.unusedSimpArgs false
theorem abm {m:an.T}{st:ai.T}(h:cu m=true)(hb:bb m st=true):∃(a:Nat) (ha:a<m.2.2.1.length),st.2.1=(a:Int)∧0≤st.2.2.1∧st.2.2.1<m.2.2.1[a].1∧0≤st.2.2.2.1∧st.2.2.2.1<m.2.2.1[a].2.1∧(1≤m.2.2.1[a].1∧m.2.2.1[a].1≤16)∧(1≤m.2.2.1[a].2.1∧m.2.2.1[a].2.1≤256):=by
 obtain⟨_,hn,hm,hs,_⟩:=kk h
 have hg:=(gy hm).2
 unfold bb at hb
 rw[Bool.and_eq_true]at hb
 obtain⟨a,b,c,d,ea,eb,ec,ed,ha,hb',hc',hd⟩:=CN hb.1
 have hb2:=hb.2
 rw[ea,eb,ec,ed]at hb2
 rw[Int.toNat_natCast]at hb2
 by_cases hal:a<m.2.2.1.length
 ·simp only[List.getElem?_eq_getElem hal,Bool.and_eq_true,decide_eq_true_eq]at hb2
  have hgi:=hg _ (List.getElem_mem hal)
  obtain⟨h1,h2,_⟩:=hb2
  exact⟨a,hal,ea,by rw[eb];exact Int.natCast_nonneg _,by rw[eb];exact h1,by rw[ec];exact Int.natCast_nonneg _,by rw[ec];exact h2,⟨hgi.1.1,Int.le_trans hgi.1.2 (by decide)⟩,⟨hgi.2.1,Int.le_trans hgi.2.2 (by decide)⟩⟩
 ·simp only[List.getElem?_eq_none (Nat.not_lt.1 hal)]at hb2
  cases hb2
end Go.Proofs.YtkgcbbkodalfmaaGreatDoor
namespace Go.Proofs.YtkgcbbkodalfmaaGreatDoor
open Go.RowKit
set_option linter.unusedVariables false
set_option linter.unusedSimpArgs false
def rN(m:an.T)(st:ai.T)(fill req:Int):aB.T:=((dW m st).2.1,req,(if((dW m st).2.1 != (0:Int))=true then st else iG),List.replicate (dW m st).2.2.1.toNat fill,())
theorem Pw {d:dE.T}(h:pH d=true):∃k:Nat,d.2.2.1=(k:Int)∧k≤1000:=by
 unfold pH at h
 simp only[Bool.and_eq_true]at h
 have hsz:=CI h.2.2.1
 obtain⟨z0,z1⟩:=hsz
 have e:((d.2.2.1.toNat:Nat):Int)=d.2.2.1:=Int.toNat_of_nonneg z0
 have h2:((d.2.2.1.toNat:Nat):Int)≤1000:=by rw[e];exact z1
 exact⟨d.2.2.1.toNat,e.symm,by omega⟩
theorem Wy {m:an.T}{st:ai.T}(h:cu m=true)(hb:bb m st=true)(fill req:Int):(rN m st fill req).2.2.2.1.length≤1000:=by
 obtain⟨_,_,hq⟩:=lW m st h hb
 obtain⟨k,hk,hk2⟩:=Pw hq
 show(List.replicate (dW m st).2.2.1.toNat fill).length≤1000
 rw[hk,List.length_replicate]
 omega
theorem ZM(m:an.T)(st:ai.T)(fill req:Int)(h:cu m=true)(hb:bb m st=true):b7 (m,st,fill,req,())=some (rN m st fill req,()):=by
 obtain⟨hd,_,hq⟩:=lW m st h hb
 obtain⟨k,hk,hk2⟩:=Pw hq
 have he:=BO k fill (by omega)
 have hst:∀z:Int,dP (z,())=some ((z != (0:Int)),()):=fun z=>rfl
 unfold b7 rN
 simp only[hd,hk,he,hst,Int.toNat_natCast,sK,cW]
 cases ((dW m st).2.1 != (0:Int))<;>rfl
end Go.Proofs.YtkgcbbkodalfmaaGreatDoor
namespace Go.Proofs.YtkgcbbkodalfmaaGreatDoor
open Go.RowKit
set_option linter.unusedVariables false
set_option linter.unusedSimpArgs false
theorem ZN {l:List Int}(h:bR l=true):∀v ∈ l,v=0∨v=1:=by
 intro v hv
 obtain⟨i,hi,rfl⟩:=List.getElem_of_mem hv
 exact sJ h hi
theorem abn {l:List Int}(h1:l.length≤8192)(h2:∀v ∈ l,v=0∨v=1):bR l=true:=UO h1 fun i hi=>h2 _ (List.getElem_mem hi)
theorem Yf {g:Int→Int}(hg:∀v,v=0∨v=1→g v=0∨g v=1):∀(k i:Nat) (l:List Int),(∀v ∈ l,v=0∨v=1)→i+k≤l.length→∀v ∈ chg g k i l,v=0∨v=1
 |0,i,l,h,_=>h
 |k+1,i,l,h,hi=>by
  rw[chg]
  refine Yf hg k (i+1) _ (fun v hv=> ?_) (by rw[List.length_set];omega)
  rcases List.mem_or_eq_of_mem_set hv with hv|rfl
  ·exact h v hv
  ·refine hg _ (h _ ?_)
   have hlt:i<l.length:=by omega
   rw[List.getD_eq_getElem?_getD,List.getElem?_eq_getElem hlt]
   exact List.getElem_mem hlt
theorem Hj {g:Int→Int}(hg:∀v,v=0∨v=1→g v=0∨g v=1){l:List Int}(h:∀v ∈ l,v=0∨v=1)(a b:Nat):∀v ∈ ja g l a b,v=0∨v=1:=by
 unfold ja
 by_cases hab:min a l.length≤min b l.length
 ·exact Yf hg _ _ l h (by omega)
 ·have:min b l.length-min a l.length=0:=by omega
  rw[this]
  exact h
theorem Vc:∀v,v=0∨v=1→iH v=0∨iH v=1:=by
 rintro v (rfl|rfl)
 ·exact .inr (by decide)
 ·exact .inl (by decide)
theorem Yg {k a c v:Int}(h:dK (k,a,c,v,())=true):(k=4∨k=6)→v=0∨v=1:=by
 intro hk
 unfold dK at h
 simp only[Bool.and_eq_true]at h
 have h4:=h.2.2.2
 have hv:yh k=true:=by
  unfold yh
  rcases hk with rfl|rfl<;>rfl
 rw[hv]at h4
 have:=aY.1 h4
 omega
theorem MP {l:List Int}{f:av.T}(h:bR l=true)(hf:dK f=true):bR (co l f)=true:=by
 have h01:=ZN h
 refine abn (ur l (eu h) f) ?_
 obtain⟨(k:Int),(a:Int),(c:Int),(v:Int),⟨⟩⟩:=f
 obtain⟨hk,_,_⟩:=tn hf
 have hv:=Yg hf
 unfold co
 split
 ·exact Hj Vc h01 _ _
 ·split
  ·exact Hj Vc h01 _ _
  ·split
   ·intro u hu
    rcases List.mem_append.1 hu with hu|hu
    ·exact h01 u (List.mem_of_mem_take hu)
    ·exact h01 u (List.mem_of_mem_drop hu)
   ·split
    ·rename_i h4
     have h4:k=4:=h4
     intro u hu
     have hu:=List.mem_of_mem_take hu
     split at hu
     ·rcases List.mem_append.1 hu with hu|hu
      ·rcases List.mem_append.1 hu with hu|hu
       ·exact h01 u (List.mem_of_mem_take hu)
       ·rw[List.mem_replicate]at hu
        rw[hu.2]
        exact hv (.inl h4)
      ·exact h01 u (List.mem_of_mem_drop hu)
     ·exact h01 u hu
    ·split
     ·exact Hj (fun _ _=>.inr rfl) h01 _ _
     ·rename_i n1 n2 n3 n4 n5
      have h6:k=6:=by
       have n1:¬k=1:=n1
       have n2:¬k=2:=n2
       have n3:¬k=3:=n3
       have n4:¬k=4:=n4
       have n5:¬k=5:=n5
       omega
      exact Hj (fun _ _=>hv (.inr h6)) h01 _ _
theorem tp {s:List av.T}(hs:dp s=true){l:List Int}(h:bR l=true):bR (dL l s)=true:=by
 have hall:∀f ∈ s,dK f=true:=by
  unfold dp at hs
  simp only[Bool.and_eq_true,List.all_eq_true]at hs
  exact fun f hf=>by first|exact hs.1 f hf|exact hs.2 f hf
 exact nf (P:=fun z:List Int=>bR z=true) s l (fun z f hf hz=>MP hz (hall f hf)) h
end Go.Proofs.YtkgcbbkodalfmaaGreatDoor

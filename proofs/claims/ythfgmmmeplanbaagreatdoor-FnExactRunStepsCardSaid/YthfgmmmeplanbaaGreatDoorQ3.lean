import Derived.Test.YthfgmmmeplanbaaGreatDoorQ2
namespace Go.Proofs.YthfgmmmeplanbaaGreatDoor
open Go.RowKit
set_option linter.unusedVariables false
set_option linter.unusedSimpArgs false
theorem Ls {T R X O:Type}{B:X→Option (X ⊕ O)}(l:List T)(e:List R→Nat→X)(g:T→List R)(N c:Nat)(hg:∀v ∈ l,(g v).length≤c)(fin:List R→O)(hend:∀s,B (e s l.length)=some (.inr (fin s)))
  (hstep:∀s i (h:i<l.length),s.length≤N+i*c→B (e s i)=some (.inl (e (s++g l[i]) (i+1)))) (s:List R) (hs:s.length≤N):ac B (e s 0)=some (fin (s++l.flatMap g)):=by
 have key:∀(k i:Nat) (s:List R),i+k=l.length→s.length≤N+i*c→ac B (e s i)=some (fin (s++(l.drop i).flatMap g)):=by
  intro k
  induction k with
  |zero=>
   intro i s hi hs
   have:i=l.length:=by omega
   subst this
   rw[an,hend]
   simp
  |succ k ih=>
   intro i s hi hs
   have h1:i<l.length:=by omega
   rw[an,hstep s i h1 hs]
   simp only
   have hg1:=hg l[i] (List.getElem_mem h1)
   rw[ih (i+1) _ (by omega) (by rw[List.length_append,Nat.add_mul];omega),List.drop_eq_getElem_cons h1]
   simp only[List.flatMap_cons,List.append_assoc]
 have:=key l.length 0 s (by omega) (by omega)
 simpa using this
theorem Ug:∀(l:List Int) (n:Int) (M:Nat),(∀b ∈ l,b=0∨b=1)→0≤n→n<M→M*2^l.length≤4611686018427387904→0≤l.foldl (fun n b=>IntKind.i64.wrap (IntKind.i64.wrap (2*n)+b)) n∧l.foldl (fun n b=>IntKind.i64.wrap (IntKind.i64.wrap (2*n)+b)) n<((M*2^l.length:Nat):Int)
 | [],n,M,_,h0,h1,_=>by
   show 0≤n∧n<((M*2^0:Nat):Int)
   rw[Nat.pow_zero,Nat.mul_one]
   exact⟨h0,h1⟩
 |b::l,n,M,hb,h0,h1,hk=>by
  have e:M*2^(l.length+1)=(2*M)*2^l.length:=by rw[Nat.pow_succ,Nat.mul_comm (2^l.length) 2,←Nat.mul_assoc,Nat.mul_comm M 2]
  have hk:M*2^(l.length+1)≤4611686018427387904:=hk
  rw[e]at hk
  have hM:2*M≤(2*M)*2^l.length:=Nat.le_mul_of_pos_right _ (Nat.two_pow_pos _)
  have hb0:=hb b (by simp)
  have w1:IntKind.i64.wrap (2*n)=2*n:=by rw[wrap_i64]<;>omega
  have w2:IntKind.i64.wrap (2*n+b)=2*n+b:=by rw[wrap_i64]<;>omega
  have ih:=Ug l (2*n+b) (2*M) (fun c hc=>hb c (by simp[hc])) (by omega) (by omega) hk
  show 0≤l.foldl _ (IntKind.i64.wrap (IntKind.i64.wrap (2*n)+b))∧l.foldl _ (IntKind.i64.wrap (IntKind.i64.wrap (2*n)+b))<((M*2^(l.length+1):Nat):Int)
  rw[w1,w2,e]
  exact ih
theorem aae(l:List Int)(h:∀b ∈ l,b=0∨b=1):∀v ∈ Lk l,0≤v∧v≤255:=by
 intro v hv
 obtain⟨k,_,rfl⟩:=List.mem_map.1 hv
 have hl:(fh l k).length≤8:=by rw[rD];omega
 have hp:2^(fh l k).length≤2^8:=Nat.pow_le_pow_right (by omega) hl
 have:=Ug (fh l k) 0 1 (fun b hb=>h b (List.mem_of_mem_drop (List.mem_of_mem_take hb))) (by omega) (by omega) (by omega)
 unfold gB
 omega
theorem GU {f:aL.T}(h:bA f=true):aN f.1 0 3=true∧aN f.2.1 0 7=true∧iH f.1 f.2.2.2.1.length=true∧iG f.2.2.2.1=true∧((f.1 != (0:Int))=true→bp f.2.2.1=true):=by
 unfold bA at h
 simp only[Bool.and_eq_true]at h
 obtain⟨h1,h2,h3,h4,h5⟩:=h
 refine⟨h1,h2,h3,h4,fun hk=> ?_⟩
 have hk0:(f.1==(0:Int))=false:=by simpa using hk
 rw[hk0]at h5
 simp only[Bool.false_eq_true,if_false]at h5
 split at h5
 ·simp only[Bool.and_eq_true]at h5
  exact h5.1
 ·exact h5
theorem M5 {f:aL.T}(h:bA f=true):(∀v ∈ br f,0≤v∧v≤255)∧((br f).length:Int)=kq f.1 f.2.2.2.1.length∧(br f).length≤50:=by
 obtain⟨h1,h2,h3,h4,h5⟩:=GU h
 have hd:=rr h
 have k1:=aO.1 h1
 have k2:=aO.1 h2
 obtain⟨(k:Int),(q:Int),st,(d:List Int),⟨⟩⟩:=f
 simp only at h1 h2 h3 h4 h5 hd k1 k2
 have w1:IntKind.i64.wrap (k*64)=k*64:=by rw[wrap_i64]<;>omega
 have w2:IntKind.i64.wrap (q*8)=q*8:=by rw[wrap_i64]<;>omega
 have w3:IntKind.i64.wrap (k*64+q*8)=k*64+q*8:=by rw[wrap_i64]<;>omega
 have hb:∀v ∈ d,0≤v∧v≤255:=by
  unfold iG at h4
  simp only[Bool.and_eq_true,List.all_eq_true]at h4
  exact fun v hv=>aO.1 (h4.2 v hv)
 have e:br (k,q,st,d,())=([k*64+q*8]++(if k != (0:Int)then Lk (nf st)else []))++(if hU k then(d.length:Int)::d else []):=by
  unfold br
  simp only[w1,w2,w3]
 rw[e]
 refine⟨fun v hv=> ?_, ?_, ?_⟩
 ·simp only[List.mem_append,List.mem_singleton]at hv
  rcases hv with(rfl|hv)|hv
  ·omega
  ·split at hv
   ·rename_i hk
    exact aae _ (Vi st (h5 hk)) v hv
   ·cases hv
  ·split at hv
   ·rcases List.mem_cons.1 hv with rfl|hv
    ·omega
    ·exact hb v hv
   ·cases hv
 ·unfold kq
  simp only[List.length_append]
  split<;>split<;>simp[gJ]<;>omega
 ·simp only[List.length_append]
  split<;>split<;>simp[gJ]<;>omega
def cU(f:aL.T)(r:Nat)(st:ab.T):List Int:=br f++ [((bo f.1 (br f) r st / 65536:Nat):Int),((bo f.1 (br f) r st / 256 % 256:Nat):Int),((bo f.1 (br f) r st % 256:Nat):Int)]
theorem W2(f:aL.T)(r:Nat)(st:ab.T)(hf:bA f=true)(hr:r<16777216)(hst:bp st=true):yD (f,(r:Int),st,())=some (cU f r st,()):=by
 obtain⟨h1,_,h2⟩:=M5 hf
 have hb:fv (f,())=some (br f,()):=WN (f,()) (by have:=rr hf;show f.2.2.2.1.length≤_;omega)
 have hc:=T0 f.1 (br f) r st (by omega) h1 hr hst
 have ht:=MY (bo f.1 (br f) r st) (pF f.1 (br f) r st hr)
 have e0:yD (f,(r:Int),st,())=match fv (f,())with
  |none=>none
  |some v1=>match gU (f.1,v1.1,(r:Int),st,())with
   |none=>none
   |some v2=>match jN (v2.1,())with
    |none=>none
    |some v3=>aM (v1.1.length+v3.1.length) (some ((v1.1++v3.1),())):=rfl
 rw[e0]
 simp only[hb,hc,ht]
 rw[aF (by simp;omega)]
 rfl
theorem W4(f:aL.T)(r:Nat)(st:ab.T)(hf:bA f=true)(hr:r<16777216)(hst:bp st=true):ob (f,(r:Int),st,())=some (cU f r st,()):=by
 obtain⟨h1,_,h2⟩:=M5 hf
 have hb:bv (f,())=some (br f,()):=WO (f,()) (by have:=rr hf;show f.2.2.2.1.length≤_;omega)
 have hc:=T1 f.1 (br f) r st (by omega) h1 hr hst
 have hn:=pF f.1 (br f) r st hr
 have ht:=MY (bo f.1 (br f) r st) hn
 generalize hq:bo f.1 (br f) r st=q at hc hn ht
 have e1: [(IntKind.i64.wrap (Int.tdiv (q:Int) (65536:Int))),(Int.tmod (IntKind.i64.wrap (Int.tdiv (q:Int) (256:Int))) (256:Int)),(Int.tmod (q:Int) (256:Int))]= [((q / 65536:Nat):Int),((q / 256 % 256:Nat):Int),((q % 256:Nat):Int)]:=by
  have a1:Int.tdiv (q:Int) 65536=((q / 65536:Nat):Int):=rfl
  have a2:Int.tdiv (q:Int) 256=((q / 256:Nat):Int):=rfl
  have a3:Int.tmod (q:Int) 256=((q % 256:Nat):Int):=rfl
  have b1:IntKind.i64.wrap ((q / 65536:Nat):Int)=((q / 65536:Nat):Int):=by rw[wrap_i64]<;>omega
  have b2:IntKind.i64.wrap ((q / 256:Nat):Int)=((q / 256:Nat):Int):=by rw[wrap_i64]<;>omega
  rw[a1,a2,a3,b1,b2]
  rfl
 have e0:ob (f,(r:Int),st,())=match bv (f,())with
  |none=>none
  |some v1=>match jn (f.1,v1.1,(r:Int),st,())with
   |none=>none
   |some v2=>aM (v1.1.length+ [(IntKind.i64.wrap (Int.tdiv v2.1 (65536:Int))),(Int.tmod (IntKind.i64.wrap (Int.tdiv v2.1 (256:Int))) (256:Int)),(Int.tmod v2.1 (256:Int))].length) (some ((v1.1++ [(IntKind.i64.wrap (Int.tdiv v2.1 (65536:Int))),(Int.tmod (IntKind.i64.wrap (Int.tdiv v2.1 (256:Int))) (256:Int)),(Int.tmod v2.1 (256:Int))]),())):=rfl
 rw[e0]
 simp only[hb,hc,e1]
 rw[aF (by simp;omega)]
 unfold cU
 rw[hq]
theorem Fc {f:aL.T}{r:Nat}{st:ab.T}(hf:bA f=true)(hr:r<16777216):(∀v ∈ cU f r st,0≤v∧v≤255)∧((cU f r st).length:Int)=kq f.1 f.2.2.2.1.length+3∧(cU f r st).length≤53:=by
 obtain⟨h1,h2,h3⟩:=M5 hf
 have hn:=pF f.1 (br f) r st hr
 unfold cU
 refine⟨fun v hv=> ?_, ?_, ?_⟩
 ·rcases List.mem_append.1 hv with hv|hv
  ·exact h1 v hv
  ·simp only[List.mem_cons,List.not_mem_nil,or_false]at hv
   rcases hv with rfl|rfl|rfl<;>omega
 ·simp only[List.length_append,List.length_cons,List.length_nil]
  omega
 ·simp only[List.length_append,List.length_cons,List.length_nil]
  omega
def ll(l:List Int):List Int:=(List.replicate 8 (0:Int)++ [1])++l.flatMap (fun b=>[1,0]++bm b 8)++ [0,1]
theorem II(l:List Int):((List.replicate 8 (0:Int)++ [1])++l.flatMap (fun b=>[1,0]++bm b 8)).length=9+10*l.length:=by
 have:(l.flatMap (fun b=>[1,0]++bm b 8)).length=10*l.length:=by
  induction l with
  |nil=>rfl
  |cons b l ih=>
   rw[List.flatMap_cons,List.length_append,ih]
   simp only[List.length_append,List.length_cons,List.length_nil,fb]
   omega
 rw[List.length_append,this]
 simp only[List.length_append,List.length_replicate,List.length_cons,List.length_nil]
theorem IJ(l:List Int):(ll l).length=11+10*l.length:=by
 unfold ll
 rw[List.length_append,II]
 simp only[List.length_cons,List.length_nil]
 omega
theorem Ze {l:List Int}(h:∀v ∈ l,0≤v∧v≤255):∀b ∈ ll l,b=0∨b=1:=by
 intro b hb
 unfold ll at hb
 simp only[List.mem_append,List.mem_replicate,List.mem_flatMap,List.mem_cons,List.not_mem_nil,or_false]at hb
 rcases hb with((⟨_,rfl⟩|rfl)|⟨v,hv,(rfl|rfl)|hb⟩)|(rfl|rfl)
 ·exact .inl rfl
 ·exact .inr rfl
 ·exact .inr rfl
 ·exact .inl rfl
 ·obtain⟨h0,h1⟩:=h v hv
  obtain⟨n,rfl⟩:=Int.eq_ofNat_of_zero_le h0
  exact Li n (by omega) 8 b hb
 ·exact .inl rfl
 ·exact .inr rfl
theorem aaf(l:List Int)(hl:l.length≤1000):re (l,(8:Int),())=some (ll l,()):=by
 have e:=Ls (B:=gV) l (fun s i=>(s,l,(l.length:Int),(i:Int),())) (fun b=>[1,0]++bm b 8) 9 10 (fun v _=>by simp[fb]) (fun s=>.inl (s,())) (fun s=>by simp only[gV,aJ]) (fun s i h hs=>by
  have ha:=nQ (s++ [1,0]) l[i] 8 (by omega) (by simp;omega)
  have ha:bw (s++ [1,0],l[i],(8:Int),())=_:=ha
  simp only[gV,aK h,av h (show l.length≤1099511627776 by omega),am h,aa]
  rw[aF (by simp;omega)]
  simp only[ha,List.append_assoc]) (List.replicate 8 (0:Int)++ [1]) (by simp)
 have e:ac gV ((List.replicate (8:Int).toNat (0:Int))++ [1],l,(l.length:Int),(0:Int),())=_:=e
 have hlen:=II l
 unfold re
 simp only[e]
 rw[if_pos (show(0:Int)≤8∧(8:Int)≤8 from⟨by decide,by decide⟩),aF (by decide),aF (by decide),aF (by rw[hlen];show 9+10*l.length+2≤_;omega)]
 rfl
theorem aag(l:List Int)(hl:l.length≤1000):o5 (l,(8:Int),())=some (ll l,()):=by
 have e:=Ls (B:=qR) l (fun s i=>(l,s,(i:Int),())) (fun b=>[1,0]++bm b 8) 9 10 (fun v _=>by simp[fb]) (fun s=>.inl (s,())) (fun s=>by simp only[qR,aJ]) (fun s i h hs=>by
  have hd:List.drop i (List.take (i+1) l)= [l[i]]:=by
   rw[List.drop_take,Nat.add_sub_cancel_left,List.drop_eq_getElem_cons h]
   rfl
  have hb:=IB [l[i]] (by simp)
  have hb1:dy [l[i]]=bm l[i] 8:=by simp[dy]
  have hbd:aH l.length (some (.dat (.int .i64) ((i:Nat):Int))) (some (.dat (.int .i64) (((i+1:Nat):Int))))=some (i,i+1):=by
   unfold aH
   simp[jv,i9]
   omega
  simp only[qR,aK h,av h (show l.length≤1099511627776 by omega)]
  rw[aF (by simp;omega),hbd]
  simp only[aa,hd,hb,hb1]
  rw[aF (by simp[fb];omega)]
  simp only[List.append_assoc]) (List.replicate 8 (0:Int)++ [1]) (by simp)
 have e:ac qR (l,(List.replicate (8:Int).toNat (0:Int))++ [1],(0:Int),())=_:=e
 have hlen:=II l
 unfold o5
 simp only[e]
 rw[if_pos (show(0:Int)≤8∧(8:Int)≤8 from⟨by decide,by decide⟩),aF (by decide),aF (by decide),aF (by rw[hlen];show 9+10*l.length+2≤_;omega)]
 rfl
end Go.Proofs.YthfgmmmeplanbaaGreatDoor
namespace Go.Proofs.YthfgmmmeplanbaaGreatDoor
open Go.RowKit
set_option linter.unusedVariables false
set_option linter.unusedSimpArgs false
theorem Ai(n:Nat)(h:n≤1099511627776):mq ((n:Int),())=some (List.replicate n (1:Int),()):=by
 have hr:LQ [(1:Int)] (n:Int)=some (List.replicate n 1):=by
  show(if(0:Int)≤(n:Int)∧(n:Int)≤1099511627776 then some (List.replicate ((n:Int)).toNat (1:Int))else none)=_
  rw[if_pos ⟨by omega,by omega⟩,Int.toNat_natCast]
 have hs:iM ([(1:Int)],(n:Int),())=some (List.replicate n (1:Int),()):=by
  unfold iM
  simp only[hr,aa]
 unfold mq
 simp only[hs]
theorem RJ(x:Int):∀(n:Nat) (acc:List Int),acc.length+n≤1099511627776→ac ij ((n:Int),x,acc,())=some (.inl (acc++List.replicate n x,()))
 |0,acc,_=>by
  rw[an]
  have hd:decide (((0:Nat):Int)>0)=false:=by decide
  simp only[ij,hd,List.replicate_zero,List.append_nil]
 |n+1,acc,h=>by
  rw[an]
  have hd:decide (((n+1:Nat):Int)>0)=true:=decide_eq_true (by omega)
  have hw:IntKind.i64.wrap (((n+1:Nat):Int)-1)=(n:Int):=by rw[wrap_i64]<;>omega
  simp only[ij,hd,hw]
  rw[aF (by show acc.length+1≤_;omega)]
  simp only
  rw[RJ x n (acc++ [x]) (by simp;omega),List.append_assoc,List.singleton_append,List.replicate_succ]
theorem tC(n:Nat)(x:Int)(h:n≤1099511627776):du ((n:Int),x,())=some (List.replicate n x,()):=by
 have e:=RJ x n [] (by simp;omega)
 unfold du
 simp only[e,List.nil_append]
theorem W5(v:Int)(n:Nat):∀(k i:Nat) (acc:List Int),i+k=n→acc.length+k≤1099511627776→n≤1099511627776→ac iz (acc,v,(n:Int),(i:Int),())=some (.inl (acc++List.replicate k v,()))
 |0,i,acc,hi,_,_=>by
  have hi:i=n:=by omega
  subst hi
  rw[an]
  simp only[iz,aJ,List.replicate_zero,List.append_nil]
 |k+1,i,acc,hi,h,hn=>by
  have hlt:i<n:=by omega
  rw[an]
  simp only[iz,aK hlt,av hlt hn]
  rw[aF (by show acc.length+1≤_;omega)]
  simp only
  rw[W5 v n k (i+1) (acc++ [v]) (by omega) (by simp;omega) hn,List.append_assoc,List.singleton_append,List.replicate_succ]
theorem Yn(acc:List Int)(v:Int)(n:Nat)(h:acc.length+n≤1099511627776):qb (acc,v,(n:Int),())=some (acc++List.replicate n v,()):=by
 have e:=W5 v n n 0 acc (by omega) h (by omega)
 have e:ac iz (acc,v,(n:Int),(0:Int),())=_:=e
 unfold qb
 simp only[e]
def dN(l:List Int):List Int:=l.flatMap fun c=>List.replicate 8 c
theorem To(l:List Int):(dN l).length=8*l.length:=by
 unfold dN
 induction l with
 |nil=>rfl
 |cons c l ih=>rw[List.flatMap_cons,List.length_append,ih,List.length_replicate,List.length_cons];omega
theorem aaL {l:List Int}(h:∀b ∈ l,b=0∨b=1):∀b ∈ dN l,b=0∨b=1:=by
 intro b hb
 unfold dN at hb
 obtain⟨c,hc,hb⟩:=List.mem_flatMap.1 hb
 rw[(List.mem_replicate.1 hb).2]
 exact h c hc
theorem X1 {l:List Int}(h:∀b ∈ l,b=0∨b=1)(hl:l.length≤8192):bD l=true:=by
 unfold bD
 simp only[Bool.and_eq_true,List.all_eq_true,decide_eq_true_eq]
 refine⟨by omega,fun v hv=>aO.2 ?_⟩
 rcases h v hv with rfl|rfl<;>omega
theorem W6(l:List Int)(h:∀b ∈ l,b=0∨b=1)(hl:l.length≤1024):iB (l,())=some (dN l,(0:Int),()):=by
 have hb:=Lb l (by omega)
 rw[X1 h (by omega)]at hb
 have e:=Ls (B:=de) l (fun s i=>(s,l,(l.length:Int),(i:Int),())) (fun c=>List.replicate 8 c) 0 8 (fun v _=>by simp) (fun s=>.inl (s,())) (fun s=>by simp only[de,aJ]) (fun s i h hs=>by
  have ha:qb (s,l[i],(8:Int),())=some (s++List.replicate 8 l[i],()):=Yn s l[i] 8 (by omega)
  simp only[de,aK h,av h (show l.length≤1099511627776 by omega),am h,aa,ha]) [] (by simp)
 have e:ac de ([],l,(l.length:Int),(0:Int),())=_:=e
 have hw:decide (IntKind.i64.wrap ((l.length:Int)*8)>8192)=false:=by
  have:IntKind.i64.wrap ((l.length:Int)*8)=(l.length:Int)*8:=by rw[wrap_i64]<;>omega
  rw[this]
  exact decide_eq_false (by omega)
 unfold iB
 simp only[hb,Bool.not_true,hw,e,List.nil_append]
 rfl
theorem Lt(l w:List Int)(j:Nat)(hj:j<l.length)(hj2:j<w.length)(hw:w[j]=8):∀(k i:Nat) (acc:List Int),i+k=8→acc.length+k≤1099511627776→ac eR (l,w,acc,(j:Int),(i:Int),())=some (.inl (l,w,acc++List.replicate k l[j],(j:Int),()))
 |0,i,acc,hi,_=>by
  have hi:i=8:=by omega
  subst hi
  rw[an]
  have hd:decide (((8:Nat):Int)<8)=false:=by decide
  simp only[eR,am hj2,aa,hw,hd,List.replicate_zero,List.append_nil]
 |k+1,i,acc,hi,h=>by
  rw[an]
  have hd:decide ((i:Int)<8)=true:=by simp;omega
  have hn:IntKind.i64.wrap ((i:Int)+1)=((i+1:Nat):Int):=by rw[wrap_i64]<;>omega
  simp only[eR,am hj2,am hj,aa,hw,hd,hn]
  rw[aF (by show acc.length+1≤_;omega)]
  simp only
  rw[Lt l w j hj hj2 hw k (i+1) (acc++ [l[j]]) (by omega) (by simp;omega),List.append_assoc,List.singleton_append,List.replicate_succ]
theorem W7(l:List Int)(hl:l.length≤1024):lB (l,())=some (dN l,()):=by
 have hq:du ((l.length:Int),(8:Int),())=some (List.replicate l.length (8:Int),()):=tC l.length 8 (by omega)
 have e:=Ls (B:=eS) l (fun s i=>(l,List.replicate l.length (8:Int),s,(i:Int),())) (fun c=>List.replicate 8 c) 0 8 (fun v _=>by simp) (fun s=>.inl (s,())) (fun s=>by simp only[eS,aJ]) (fun s i h hs=>by
  have ha:ac eR (l,List.replicate l.length (8:Int),s,(i:Int),(0:Int),())=_:=Lt l (List.replicate l.length (8:Int)) i h (by simpa using h) (by simp) 8 0 s (by omega) (by omega)
  simp only[eS,aK h,ha,av h (show l.length≤1099511627776 by omega)]) [] (by simp)
 have e:ac eS (l,List.replicate l.length (8:Int),[],(0:Int),())=_:=e
 unfold lB uo
 simp only[hq,e,List.nil_append]
 rfl
noncomputable def cV(m:ae.T)(st:ab.T)(f:aL.T):Bool:=(bA f&&iO (bH m st) f)&&(!(f.1 != (0:Int))||dC ab f.2.2.1 st)
theorem Zf(d:a7.T)(f:aL.T)(hd:kr d=true)(hl:f.2.2.2.1.length≤1099511627776):iA (d,f,())=some (bA f&&iO d f,()):=by
 have h1:eZ (d,())=some (true,()):=by rw[←hd];exact WU (d,())
 have h2:ez (f,())=some (bA f,()):=TZ (f,()) hl
 have h3:uV (d,f,())=some (iO d f,()):=Uc (d,f,())
 have e0:iA (d,f,())=match eZ (d,())with
  |none=>none
  |some v1=>match v1.1 with
   |true=>match ez (f,())with
    |none=>none
    |some v2=>match v2.1 with
     |true=>match uV (d,f,())with
      |none=>none
      |some v3=>some (v3.1,())
     |false=>some (false,())
   |false=>some (false,()):=rfl
 rw[e0,h1]
 simp only[h2]
 cases bA f
 ·rfl
 ·simp only[h3,Bool.true_and]
theorem Zg(d:a7.T)(f:aL.T)(hd:kr d=true)(hl:f.2.2.2.1.length≤1099511627776):c8 (d,f,())=some (bA f&&iO d f,()):=by
 have h1:dU (d,())=some (true,()):=by rw[←hd];exact Rs (d,())
 have h2:cu (f,())=some (bA f,()):=MW (f,()) hl
 cases hf:bA f with
 |true=>rw[Ud d f hd hf hl,Bool.true_and]
 |false=>
  rw[hf]at h2
  have e0:c8 (d,f,())=match dU (d,())with
   |none=>none
   |some v1=>match v1.1 with
    |true=>match cu (f,())with
     |none=>none
     |some v2=>match v2.1 with
      |true=>_
      |false=>some (false,())
    |false=>some (false,()):=rfl
  rw[e0,h1]
  simp only[h2]
  rfl
theorem W8(m:ae.T)(st:ab.T)(f:aL.T)(h:aY m=true)(hb:aA m st=true)(hl:f.2.2.2.1.length≤1099511627776):gA (m,st,f,())=some (cV m st f,()):=by
 obtain⟨_,hd,hq⟩:=d5 m st h hb
 have hf:=Zf (bH m st) f hq hl
 have e0:gA (m,st,f,())=match ay (m,st,())with
  |none=>none
  |some v1=>match iA (v1.1,f,())with
   |none=>none
   |some v2=>match v2.1 with
    |true=>match(!(f.1 != (0:Int)))with
     |true=>some (true,())
     |false=>some ((dC ab f.2.2.1 st),())
    |false=>some (false,()):=rfl
 rw[e0,hd]
 simp only[hf]
 unfold cV
 cases bA f&&iO (bH m st) f<;>cases (!(f.1 != (0:Int)))<;>simp
theorem aah(m:ae.T)(st:ab.T)(f:aL.T)(h:aY m=true)(hb:aA m st=true)(hl:f.2.2.2.1.length≤1099511627776):kE (m,st,f,())=some (cV m st f,()):=by
 obtain⟨hd,_,hq⟩:=d5 m st h hb
 have hf:=Zg (bH m st) f hq hl
 have e0:kE (m,st,f,())=match cn (m,st,())with
  |none=>none
  |some v1=>match c8 (v1.1,f,())with
   |none=>none
   |some v2=>match v2.1 with
    |true=>match(!(f.1 != (0:Int)))with
     |true=>some (true,())
     |false=>some ((dC ab f.2.2.1 st),())
    |false=>some (false,()):=rfl
 rw[e0,hd]
 simp only[hf]
 unfold cV
 cases bA f&&iO (bH m st) f<;>cases (!(f.1 != (0:Int)))<;>simp
noncomputable def gD(m:ae.T)(st:ab.T)(f:aL.T):Int:=match aY m with
 |false=>1
 |true=>match aA m st with
  |false=>2
  |true=>match cV m st f with
   |false=>5
   |true=>0
theorem Zh(m:ae.T)(st:ab.T)(f:aL.T)(hz:bZ m)(hl:f.2.2.2.1.length≤1099511627776):pt (m,st,f,())=some (gD m st f,()):=by
 have hM:km (m,())=_:=RC m hz
 have e0:pt (m,st,f,())=match dW (m,st,())with
  |none=>none
  |some v1=>match(v1.1 != (0:Int))with
   |true=>some (v1.1,())
   |false=>match gA (m,st,f,())with
    |none=>none
    |some v2=>match(!v2.1)with
     |true=>some ((5:Int),())
     |false=>some ((0:Int),()):=rfl
 have e1:dW (m,st,())=match km (m,())with
  |none=>none
  |some v1=>match(!v1.1)with
   |true=>some ((1:Int),())
   |false=>match lM (m,st,())with
    |none=>none
    |some v2=>match(!v2.1)with
     |true=>some ((2:Int),())
     |false=>some ((0:Int),()):=rfl
 rw[e0,e1,hM]
 unfold gD
 rcases Bool.eq_false_or_eq_true (aY m)with h1|h1<;>simp only[h1,Bool.not_true,Bool.not_false]
 ·have hB:=Vr m st h1
  simp only[hB]
  rcases Bool.eq_false_or_eq_true (aA m st)with h2|h2<;>simp only[h2,Bool.not_true,Bool.not_false]
  ·have hS:=W8 m st f h1 h2 hl
   have k0:((0:Int) != 0)=false:=rfl
   simp only[k0,hS]
   cases cV m st f<;>rfl
  ·rfl
 ·rfl
end Go.Proofs.YthfgmmmeplanbaaGreatDoor
namespace Go.Proofs.YthfgmmmeplanbaaGreatDoor
open Go.RowKit
set_option linter.unusedVariables false
set_option linter.unusedSimpArgs false
theorem aai(n:Nat)(hn:n≤1099511627776):jz ((),(n:Int),())=some ([],()):=by
 unfold jz
 have w0:IntKind.i64.wrap ((0:Int)-0)=0:=by decide
 have w1:IntKind.i64.wrap ((n:Int)-0)=n:=by rw[Int.sub_zero,wrap_i64]<;>omega
 have n0:decide ((n:Int)<0)=false:=by simp
 simp only[w0,w1,n0]
 by_cases h:(n:Int)>0
 ·have b1:aH 0 none (some (.dat (.int .i64) (0:Int)))=some (0,0):=rfl
  have b2:aH (List.replicate ((n:Int).toNat) (0:Int)).length none (some (.dat (.int .i64) (0:Int)))=some (0,0):=by
   have hh:(0:Int)≤0∧(0:Int)≤0∧(0:Int)≤((List.replicate ((n:Int).toNat) (0:Int)).length:Int):=⟨by omega,by omega,by omega⟩
   simp only[aH,jv,i9]
   exact if_pos hh
  have hp:(0:Int)≤(n:Int):=by omega
  simp only[decide_eq_true h,b1,aa,hp,if_true]
  rw[aF (by rw[Int.toNat_natCast];exact hn),b2]
  rfl
 ·simp only[decide_eq_false h]
theorem X2(a b:List Int)(h:a.length+b.length≤1099511627776):fU ([a,b],())=some (a++b,()):=by
 unfold fU
 have w1:IntKind.i64.wrap ((0:Int)+(a.length:Int))=(a.length:Int):=by rw[Int.zero_add,wrap_i64]<;>omega
 have w2:IntKind.i64.wrap ((a.length:Int)+(b.length:Int))=((a.length+b.length:Nat):Int):=by rw[←Int.natCast_add,wrap_i64]<;>omega
 have n1:decide ((a.length:Int)<0)=false:=by simp
 have n2:decide (((a.length+b.length:Nat):Int)<0)=false:=by simp;omega
 have i0:au [a,b] (0:Int)=some a:=rfl
 have i1:au [a,b] (1:Int)=some b:=rfl
 have k1:IntKind.i64.wrap ((0:Int)+1)=1:=by decide
 have k2:IntKind.i64.wrap ((1:Int)+1)=2:=by decide
 have c0:decide ((0:Int)<2)=true:=by decide
 have c1:decide ((1:Int)<2)=true:=by decide
 have c2:decide ((2:Int)<2)=false:=by decide
 have e1:ac cf ([a,b],(0:Int),[a,b],((2:Nat):Int),(0:Int),())=some (.inl ([a,b],((a.length+b.length:Nat):Int),())):=by
  rw[an]
  simp only[cf,i0,aa,w1,n1,k1,c0,show(((2:Nat):Int))=2 from rfl]
  rw[an]
  simp only[cf,i1,aa,w2,n2,k2,c1]
  rw[an]
  simp only[cf,c2]
 have e2:ac bW ([],[a,b],((2:Nat):Int),(0:Int),())=some (.inl (a++b,())):=by
  rw[an]
  simp only[bW,i0,aa,k1,c0,show(((2:Nat):Int))=2 from rfl]
  rw[aF (by simp;omega)]
  simp only[List.nil_append]
  rw[an]
  simp only[bW,i1,aa,k2,c1]
  rw[aF (by omega)]
  simp only
  rw[an]
  simp only[bW,c2]
 have e1:ac cf ([a,b],(0:Int),[a,b],(([a,b]:List (List Int)).length:Int),(0:Int),())=_:=e1
 have e2:ac bW ([],[a,b],(([a,b]:List (List Int)).length:Int),(0:Int),())=_:=e2
 simp only[e1,aai _ h,e2]
theorem tm {m:ae.T}{st:ab.T}{f:aL.T}(h:cV m st f=true):bA f=true∧iO (bH m st) f=true:=by
 unfold cV at h
 simp only[Bool.and_eq_true]at h
 exact h.1
theorem RK {m:ae.T}{st:ab.T}{f:aL.T}(r:Nat)(hr:r<16777216)(h:aY m=true)(hb:aA m st=true)(hs:cV m st f=true):
  ∃D:Nat,(bH m st).2.2.2.1=(D:Int)∧19+10*(cU f r st).length+12≤D∧D≤1000:=by
 obtain⟨hf,ht⟩:=tm hs
 obtain⟨_,_,hq⟩:=d5 m st h hb
 obtain⟨_,hl,_⟩:=Fc (st:=st) hf hr
 generalize bH m st=d at hq ht
 unfold kr at hq
 unfold iO at ht
 simp only[Bool.and_eq_true,beq_iff_eq]at hq ht
 obtain⟨q1,q2,q3,q4,q5⟩:=hq
 obtain⟨t1,t2,t3⟩:=ht
 have hsz:=vk q3
 have hbn:=Ad d.2.1 d.2.2.1 hsz.1 hsz.2
 rw[t1,t2]at hl
 have q5:=aO.1 q5
 have hc:vj d.2.1 d.2.2.1=11+10*(kq d.2.1 d.2.2.1+3):=rfl
 rw[hc]at q5
 generalize (cU f r st).length=k at hl ⊢
 generalize kq d.2.1 d.2.2.1=bn at hl hbn q5
 have hw:IntKind.i64.wrap (11+10*(bn+3)+20)=11+10*(bn+3)+20:=by rw[wrap_i64]<;>omega
 rw[hw]at q5
 generalize d.2.2.2.1=D at q5
 have hD:(0:Int)≤D:=by omega
 obtain⟨D,rfl⟩:=Int.eq_ofNat_of_zero_le hD
 exact⟨D,rfl,by omega,by omega⟩
def fc(m:ae.T)(st:ab.T)(f:aL.T):List Int:=(List.replicate 8 (1:Int)++ll (cU f m.1.toNat st))++List.replicate ((bH m st).2.2.2.1.toNat-(19+10*(cU f m.1.toNat st).length)) 1
theorem M6 {m:ae.T}{st:ab.T}{f:aL.T}(h:gD m st f=0):aY m=true∧aA m st=true∧cV m st f=true:=by
 unfold gD at h
 cases h1:aY m<;>rw[h1]at h
 ·cases h
 ·cases h2:aA m st<;>rw[h2]at h
  ·cases h
  ·cases h3:cV m st f<;>rw[h3]at h
   ·cases h
   ·exact⟨rfl,rfl,rfl⟩
theorem ow {m:ae.T}{st:ab.T}(h:aA m st=true):bp st=true:=by
 unfold aA at h
 simp only[Bool.and_eq_true]at h
 exact h.1
theorem IK {m:ae.T}{st:ab.T}{f:aL.T}(h:gD m st f=0):(fc m st f).length≤1000∧∀b ∈ fc m st f,b=0∨b=1:=by
 obtain⟨h1,h2,h3⟩:=M6 h
 obtain⟨r,hr,hr2⟩:=y9 h1
 obtain⟨D,hD,d1,d2⟩:=RK r hr2 h1 h2 h3
 obtain⟨s1,_,_⟩:=Fc (st:=st) (tm h3).1 hr2
 unfold fc
 rw[hD,hr,Int.toNat_natCast,Int.toNat_natCast]
 refine⟨?_,fun b hb=> ?_⟩
 ·rw[List.length_append,List.length_append,IJ,List.length_replicate,List.length_replicate]
  omega
 ·simp only[List.mem_append,List.mem_replicate]at hb
  rcases hb with(⟨_,rfl⟩|hb)|⟨_,rfl⟩
  ·exact .inr rfl
  ·exact Ze s1 b hb
  ·exact .inr rfl
theorem Tp(m:ae.T)(st:ab.T)(f:aL.T)(hz:bZ m)(hl:f.2.2.2.1.length≤1099511627776):m9 (m,st,f,())=some (if gD m st f=0 then(fc m st f,(0:Int),())else([],gD m st f,())):=by
 have hc:=Zh m st f hz hl
 have e0:m9 (m,st,f,())=match pt (m,st,f,())with
  |none=>none
  |some v1=>match(v1.1 != (0:Int))with
   |true=>some ([],v1.1,())
   |false=>match mq ((8:Int),())with
    |none=>none
    |some v2=>match yD (f,m.1,st,())with
     |none=>none
     |some v3=>match re (v3.1,(8:Int),())with
      |none=>none
      |some v4=>match fU ([v2.1,v4.1],())with
       |none=>none
       |some v5=>match ay (m,st,())with
        |none=>none
        |some v6=>match mq ((IntKind.i64.wrap (v6.1.2.2.2.1-(v5.1.length:Int))),())with
         |none=>none
         |some v7=>aM (v5.1.length+v7.1.length) (some ((v5.1++v7.1),(0:Int),())):=rfl
 rw[e0,hc]
 by_cases h:gD m st f=0
 ·obtain⟨h1,h2,h3⟩:=M6 h
  obtain⟨r,hr,hr2⟩:=y9 h1
  obtain⟨D,hD,d1,d2⟩:=RK r hr2 h1 h2 h3
  have hf:=(tm h3).1
  obtain⟨s1,_,s2⟩:=Fc (st:=st) hf hr2
  have k0:(gD m st f != 0)=false:=by rw[h];rfl
  have a1:mq ((8:Int),())=some (List.replicate 8 (1:Int),()):=Ai 8 (by omega)
  have a2:yD (f,m.1,st,())=some (cU f r st,()):=by rw[hr];exact W2 f r st hf hr2 (ow h2)
  have a3:=aaf (cU f r st) (by omega)
  have hll:=IJ (cU f r st)
  have a4:=X2 (List.replicate 8 (1:Int)) (ll (cU f r st)) (by rw[List.length_replicate];omega)
  obtain⟨_,a5,_⟩:=d5 m st h1 h2
  have hlen:(List.replicate 8 (1:Int)++ll (cU f r st)).length=19+10*(cU f r st).length:=by rw[List.length_append,List.length_replicate,hll];omega
  have hw:IntKind.i64.wrap ((bH m st).2.2.2.1-(((List.replicate 8 (1:Int)++ll (cU f r st)).length:Nat):Int))=((D-(19+10*(cU f r st).length):Nat):Int):=by
   rw[hlen,hD,wrap_i64]<;>omega
  have a6:=Ai (D-(19+10*(cU f r st).length)) (by omega)
  rw[if_pos h]
  simp only[k0,a1,a2,a3,a4,a5]
  have hw':IntKind.i64.wrap ((bH m st).2.2.2.1-((List.replicate 8 (1:Int)++ll (cU f r st)).length:Int))=((D-(19+10*(cU f r st).length):Nat):Int):=hw
  rw[hw']
  simp only[a6]
  rw[aF (by rw[hlen,List.length_replicate];omega)]
  unfold fc
  rw[hD,hr,Int.toNat_natCast,Int.toNat_natCast]
 ·have k0:(gD m st f != 0)=true:=by simpa using h
  rw[if_neg h]
  simp only[k0]
theorem Tq(m:ae.T)(st:ab.T)(f:aL.T)(hz:bZ m)(h:gD m st f=0):o6 (m,st,f,())=some (fc m st f,()):=by
 obtain⟨h1,h2,h3⟩:=M6 h
 obtain⟨r,hr,hr2⟩:=y9 h1
 obtain⟨D,hD,d1,d2⟩:=RK r hr2 h1 h2 h3
 have hf:=(tm h3).1
 obtain⟨s1,_,s2⟩:=Fc (st:=st) hf hr2
 have a1:du ((8:Int),(1:Int),())=some (List.replicate 8 (1:Int),()):=tC 8 1 (by omega)
 have a2:ob (f,m.1,st,())=some (cU f r st,()):=by rw[hr];exact W4 f r st hf hr2 (ow h2)
 have a3:=aag (cU f r st) (by omega)
 have hll:=IJ (cU f r st)
 obtain⟨a5,_,_⟩:=d5 m st h1 h2
 have hlen:(List.replicate 8 (1:Int)++ll (cU f r st)).length=19+10*(cU f r st).length:=by rw[List.length_append,List.length_replicate,hll];omega
 have hw:IntKind.i64.wrap ((bH m st).2.2.2.1-(((List.replicate 8 (1:Int)++ll (cU f r st)).length:Nat):Int))=((D-(19+10*(cU f r st).length):Nat):Int):=by
  rw[hlen,hD,wrap_i64]<;>omega
 have a6:=tC (D-(19+10*(cU f r st).length)) 1 (by omega)
 have e0:o6 (m,st,f,())=ba (
  match du ((8:Int),(1:Int),())with
  |none=>none
  |some v1=>match ob (f,m.1,st,())with
   |none=>none
   |some v2=>match o5 (v2.1,(8:Int),())with
    |none=>none
    |some v3=>aM (v1.1.length+v3.1.length) (
     match cn (m,st,())with
     |none=>none
     |some v4=>match du ((IntKind.i64.wrap (v4.1.2.2.2.1-((v1.1++v3.1).length:Int))),(1:Int),())with
      |none=>none
      |some v5=>aM ((v1.1++v3.1).length+v5.1.length) (some (((v1.1++v3.1)++v5.1),())))):=rfl
 rw[e0]
 simp only[a1,a2,a3,a5]
 have hw':IntKind.i64.wrap ((bH m st).2.2.2.1-((List.replicate 8 (1:Int)++ll (cU f r st)).length:Int))=((D-(19+10*(cU f r st).length):Nat):Int):=hw
 rw[hw',aF (by rw[List.length_replicate,hll];omega)]
 simp only[a6]
 rw[aF (by rw[hlen,List.length_replicate];omega)]
 unfold fc
 rw[hD,hr,Int.toNat_natCast,Int.toNat_natCast]
 exact dZ _
theorem Zi(m:ae.T)(st:ab.T)(f:aL.T)(hz:bZ m)(hl:f.2.2.2.1.length≤1099511627776):kM (m,st,f,())=some (if gD m st f=0 then(dN (fc m st f),(0:Int),())else([],gD m st f,())):=by
 have hc:=Tp m st f hz hl
 have e0:kM (m,st,f,())=match m9 (m,st,f,())with
  |none=>none
  |some v1=>match(v1.2.1 != (0:Int))with
   |true=>some ([],v1.2.1,())
   |false=>match iB (v1.1,())with
    |none=>none
    |some v2=>some v2:=rfl
 rw[e0,hc]
 by_cases h:gD m st f=0
 ·obtain⟨c1,c2⟩:=IK h
  have hn:=W6 (fc m st f) c2 (by omega)
  simp only[if_pos h,hn]
  rfl
 ·have k0:(gD m st f != 0)=true:=by simpa using h
  simp only[if_neg h,k0]
end Go.Proofs.YthfgmmmeplanbaaGreatDoor
namespace Go.Proofs.YthfgmmmeplanbaaGreatDoor
open Go.RowKit
set_option linter.unusedVariables false
set_option linter.unusedSimpArgs false
def Aj(k:Int):Bool:=(k != 1)&&(k != 5)
def EF(k:Int):Bool:=(k==4)||(k==6)
def fe(f:al.T):Bool:=aN f.1 1 6&&(aN f.2.1 0 8192&&((if Aj f.1 then aN f.2.2.1 1 8192 else f.2.2.1==(0:Int))&&(if EF f.1 then aN f.2.2.2.1 0 1 else f.2.2.2.1==(0:Int))))
theorem X3(x):qq x=some (Aj x.1,()):=by
 unfold qq Aj
 rcases Bool.eq_false_or_eq_true (x.1 != (1:Int))with h|h<;>simp only[h]<;>rfl
theorem X4(x):po x=some (EF x.1,()):=by
 unfold po EF
 rcases Bool.eq_false_or_eq_true (x.1==(4:Int))with h|h<;>simp only[h]<;>rfl
theorem X5(x):om x=some (fe x.1,()):=by
 unfold om fe
 simp only[l0,X3,X4]
 rcases Bool.eq_false_or_eq_true (aN x.1.1 1 6)with h1|h1<;>rcases Bool.eq_false_or_eq_true (aN x.1.2.1 0 8192)with h2|h2<;>rcases Bool.eq_false_or_eq_true (Aj x.1.1)with h3|h3<;>rcases Bool.eq_false_or_eq_true (EF x.1.1)with h4|h4<;>rcases Bool.eq_false_or_eq_true (aN x.1.2.2.1 1 8192)with h5|h5<;>rcases Bool.eq_false_or_eq_true (x.1.2.2.1==(0:Int))with h6|h6<;>simp only[h1,h2,h3,h4,h5,h6]<;>rfl
theorem X6(k:Int)(h:aN k 1 6=true):wY (k,())=some (Aj k,EF k,()):=by
 have:=aO.1 h
 have hk:k=1∨k=2∨k=3∨k=4∨k=5∨k=6:=by omega
 rcases hk with rfl|rfl|rfl|rfl|rfl|rfl<;>rfl
theorem X7(x):qN x=some (fe x.1,()):=by
 have hz:(aN x.1.2.2.2.1 0 1&&(x.1.2.2.2.1==(0:Int)))=(x.1.2.2.2.1==(0:Int)):=by
  rcases Bool.eq_false_or_eq_true (x.1.2.2.2.1==(0:Int))with h|h
  ·have h0:x.1.2.2.2.1=0:=by simpa using h
   rw[h0];rfl
  ·rw[h,Bool.and_false]
 unfold qN fe
 simp only[iU]
 rcases Bool.eq_false_or_eq_true (aN x.1.1 1 6)with h1|h1
 ·have hf:=X6 x.1.1 h1
  simp only[h1,hf]
  rcases Bool.eq_false_or_eq_true (aN x.1.2.1 0 8192)with h2|h2<;>rcases Bool.eq_false_or_eq_true (Aj x.1.1)with h3|h3<;>rcases Bool.eq_false_or_eq_true (EF x.1.1)with h4|h4<;>rcases Bool.eq_false_or_eq_true (aN x.1.2.2.1 1 8192)with h5|h5<;>rcases Bool.eq_false_or_eq_true (x.1.2.2.1==(0:Int))with h6|h6<;>rcases Bool.eq_false_or_eq_true (aN x.1.2.2.2.1 0 1)with h7|h7<;>rcases Bool.eq_false_or_eq_true (x.1.2.2.2.1==(0:Int))with h8|h8<;>simp only[h7,h8,Bool.false_and,Bool.true_and,reduceCtorEq]at hz<;>simp only[h2,h3,h4,h5,h6,h7,h8,bne]<;>rfl
 ·simp only[h1]
  rfl
def eB(l:List al.T):Bool:=decide ((l.length:Int)≤30)&&l.all fe
theorem NT(l:List al.T)(hl:l.length≤1099511627776):oX (l,())=some (eB l,()):=by
 have e:=gY (B:=fZ) l (fun i=>(l,(i:Int),())) fe (.inl (l,())) (.inr (false,())) (by simp only[fZ,aJ]) (fun i h=>by
  have hf:qN (l[i],())=some (fe l[i],()):=X7 (l[i],())
  simp only[fZ,aK h,av h hl,am h,aa,hf]
  cases fe l[i]<;>simp)
 have e:ac fZ (l,(0:Int),())=_:=e
 unfold oX eB
 simp only[e]
 cases l.all fe<;>simp
theorem NU(l:List al.T)(hl:l.length≤1099511627776):pq (l,())=some (eB l,()):=by
 have hc:=MS l hl lP (fun f=> !fe f) (fun i h=>by
  have hf:om (l[i],())=some (fe l[i],()):=X5 (l[i],())
  have e0:lP (l[i],())=match om (l[i],())with
   |none=>none
   |some v1=>some ((!v1.1),()):=rfl
  rw[e0,hf])
 have e0:pq (l,())=match(decide ((l.length:Int)≤(30:Int)))with
  |true=>match dw (l,lP,())with
   |none=>none
   |some v1=>some ((!v1.1),())
  |false=>some (false,()):=rfl
 rw[e0,hc]
 unfold eB
 rw[yX]
 cases decide ((l.length:Int)≤30)
 ·rfl
 ·simp
def chg(g:Int→Int):Nat→Nat→List Int→List Int
 |0,_,l=>l
 |k+1,i,l=>chg g k (i+1) (l.set i (g (l.getD i 0)))
theorem zb(g:Int→Int):∀(k i:Nat) (l:List Int),(chg g k i l).length=l.length
 |0,_,_=>rfl
 |k+1,i,l=>by rw[chg,zb g k,List.length_set]
theorem NV(by_:Int×Unit→Option (Int×Unit))(g:Int→Int)(hg:∀v,by_ (v,())=some (g v,()))(to:Int):∀(k i:Nat) (l:List Int),l.length≤1000000→((i+k:Nat):Int)=(if(l.length:Int)<to then(l.length:Int)else to)→ac gz (l,to,by_,(i:Int),())=some (.inl (chg g k i l,()))
 |0,i,l,hl,h=>by
  rw[an]
  have hd:decide ((i:Int)<(if(l.length:Int)<to then(l.length:Int)else to))=false:=decide_eq_false (by omega)
  simp only[gz,hd]
  rfl
 |k+1,i,l,hl,h=>by
  have hlt:i<l.length:=by split at h<;>omega
  rw[an]
  have hd:decide ((i:Int)<(if(l.length:Int)<to then(l.length:Int)else to))=true:=decide_eq_true (by omega)
  have hget:l[i]? =some l[i]:=List.getElem?_eq_getElem hlt
  simp only[gz,hd,am hlt,aa,Int.toNat_natCast,hget,hg,av hlt (show l.length≤1099511627776 by omega)]
  have ih:=NV by_ g hg to k (i+1) (l.set i (g l[i])) (by rw[List.length_set];exact hl) (by rw[List.length_set];omega)
  rw[ih,chg,List.getD_eq_getElem?_getD,hget]
  rfl
def vp(g:Int→Int)(l:List Int)(a b:Nat):List Int:=chg g (min b l.length-min a l.length) (min a l.length) l
theorem wK(by_:Int×Unit→Option (Int×Unit))(g:Int→Int)(hg:∀v,by_ (v,())=some (g v,()))(l:List Int)(hl:l.length≤1000000)(a b:Nat)(ha:a≤1000000):nP (l,(a:Int),(b:Int),by_,())=some (vp g l a b,()):=by
 have key:ac gz (l,(b:Int),by_,(a:Int),())=some (.inl (vp g l a b,())):=by
  by_cases h:a≤min b l.length
  ·have:=NV by_ g hg (b:Int) (min b l.length-a) a l hl (by split<;>omega)
   rw[this]
   unfold vp
   rw[Nat.min_eq_left (show a≤l.length by omega)]
  ·rw[an]
   have hd:decide ((a:Int)<(if(l.length:Int)<(b:Int)then(l.length:Int)else(b:Int)))=false:=decide_eq_false (by split<;>omega)
   simp only[gz,hd]
   unfold vp
   rw[show min b l.length-min a l.length=0 by omega]
   rfl
 unfold nP
 simp only[key]
end Go.Proofs.YthfgmmmeplanbaaGreatDoor
namespace Go.Proofs.YthfgmmmeplanbaaGreatDoor
open Go.RowKit
set_option linter.unusedVariables false
set_option linter.unusedSimpArgs false
def wL(v:Int):Int:=IntKind.i64.wrap (1-v)
def gF(f:al.T):Int→Int:=if(f.1==(5:Int))=true then fun _=>1 else if(f.1==(6:Int))=true then fun _=>f.2.2.2.1 else wL
theorem M7(n k:Nat)(e:Int)(he:e=(k:Int))(hk:k≤n):aH n none (some (.dat (.int .i64) e))=some (0,k):=by
 subst he
 simp only[aH,jv,i9,sI]
 rw[if_pos (by omega)]
 simp
theorem RL(n k:Nat)(e:Int)(he:e=(k:Int))(hk:k≤n):aH n (some (.dat (.int .i64) e)) none=some (k,n):=by
 subst he
 simp only[aH,jv,i9,sI]
 rw[if_pos (by omega)]
 simp
theorem W9(f:al.T)(to:Nat):∀(k i:Nat) (l:List Int),l.length≤1000000→i+k=to→to≤l.length→ac cT (f,(to:Int),l,(i:Int),())=some (.inl (chg (gF f) k i l,()))
 |0,i,l,hl,h,ht=>by
  have h:i=to:=by omega
  subst h
  rw[an]
  simp only[cT,aJ]
  rfl
 |k+1,i,l,hl,h,ht=>by
  have hlt:i<l.length:=by omega
  have hlt2:i<to:=by omega
  have hget:l[i]? =some l[i]:=List.getElem?_eq_getElem hlt
  have hg:l.getD i 0=l[i]:=by rw[List.getD_eq_getElem?_getD,hget];rfl
  have ih:=W9 f to k (i+1) (l.set i (gF f l[i])) (by rw[List.length_set];exact hl) (by omega) (by rw[List.length_set];exact ht)
  rw[an,chg,hg]
  unfold gF at ih ⊢
  rcases Bool.eq_false_or_eq_true (f.1==(5:Int))with h5|h5
  ·rw[h5]at ih ⊢
   simp only[if_true]at ih ⊢
   simp only[cT,aK hlt2,h5,am hlt,aa,Int.toNat_natCast,hget,av hlt (show l.length≤1099511627776 by omega)]
   exact ih
  ·rcases Bool.eq_false_or_eq_true (f.1==(6:Int))with h6|h6
   ·rw[h5,h6]at ih ⊢
    simp only[if_true,Bool.false_eq_true,if_false]at ih ⊢
    simp only[cT,aK hlt2,h5,h6,am hlt,aa,Int.toNat_natCast,hget,av hlt (show l.length≤1099511627776 by omega)]
    exact ih
   ·rw[h5,h6]at ih ⊢
    simp only[Bool.false_eq_true,if_false]at ih ⊢
    simp only[cT,aK hlt2,h5,h6,am hlt,aa,Int.toNat_natCast,hget,av hlt (show l.length≤1099511627776 by omega)]
    exact ih
theorem Fd(l:List Int)(hl:l.length≤1000000)(f:al.T)(a b:Nat)(hab:a≤b)(hb:b≤l.length):fk (l,f,(a:Int),(b:Int),())=some (.inr (chg (gF f) (b-a) a l,())):=by
 have ho:=y6 l hl
 have e:=W9 f b (b-a) a l hl (by omega) hb
 have e':ac cT ((f.1,f.2.1,f.2.2.1,f.2.2.2.1,()),(b:Int),l,(a:Int),())=_:=e
 unfold fk
 simp only[ho]
 first|simp only[e]|simp only[e']
noncomputable def fW(l:List Int)(f:al.T):List Int:=
 if f.1=1 then vp wL l f.2.1.toNat (f.2.1.toNat+1)
 else if f.1=2 then vp wL l f.2.1.toNat (f.2.1.toNat+f.2.2.1.toNat)
 else if f.1=3 then l.take (min f.2.1.toNat l.length)++l.drop (min (f.2.1.toNat+f.2.2.1.toNat) l.length)
 else if f.1=4 then(if f.2.1.toNat≤l.length then l.take f.2.1.toNat++List.replicate f.2.2.1.toNat f.2.2.2.1++l.drop f.2.1.toNat else l).take 8192
 else if f.1=5 then vp (fun _=>1) l f.2.1.toNat l.length
 else vp (fun _=>f.2.2.2.1) l f.2.1.toNat (f.2.1.toNat+f.2.2.1.toNat)
theorem xo {k a c v:Int}(h:fe (k,a,c,v,())=true):(k=1∨k=2∨k=3∨k=4∨k=5∨k=6)∧(∃n:Nat,a=(n:Int)∧n≤8192)∧(∃n:Nat,c=(n:Int)∧n≤8192∧((k=2∨k=3∨k=4∨k=6)→1≤n)):=by
 unfold fe at h
 simp only[Bool.and_eq_true]at h
 obtain⟨h1,h2,h3,_⟩:=h
 have h1:=aO.1 h1
 have h2:=aO.1 h2
 refine⟨by omega,⟨a.toNat,by omega,by omega⟩, ?_⟩
 by_cases hk:k=1∨k=5
 ·have:Aj k=false:=by rcases hk with rfl|rfl<;>rfl
  rw[this]at h3
  have h3:c=0:=by simpa using h3
  exact⟨0,by omega,by omega,fun h=>by omega⟩
 ·have:Aj k=true:=by
   unfold Aj
   simp only[Bool.and_eq_true,bne_iff_ne]
   omega
  rw[this]at h3
  have h3:=aO.1 h3
  exact⟨c.toNat,by omega,by omega,fun _=>by omega⟩
theorem aaj(l:List Int)(a c:Nat)(v:Int):fW l ((4:Int),(a:Int),(c:Int),v,())=(if a≤l.length then l.take a++List.replicate c v++l.drop a else l).take 8192:=by
 unfold fW
 rw[if_neg (show ¬(4:Int)=1 by decide),if_neg (show ¬(4:Int)=2 by decide),if_neg (show ¬(4:Int)=3 by decide),if_pos (show(4:Int)=4 from rfl)]
 simp only[Int.toNat_natCast]
theorem Vy(l:List Int)(hl:l.length≤8192)(f:al.T)(hf:fe f=true):lT (l,f,())=some (fW l f,()):=by
 obtain⟨(k:Int),(a:Int),(c:Int),(v:Int),⟨⟩⟩:=f
 obtain⟨hk,⟨a,rfl,ha⟩,⟨c,rfl,hc,hc1⟩⟩:=xo hf
 have hcl:=Ab l (by omega)
 have w1:IntKind.i64.wrap ((a:Int)+1)=((a+1:Nat):Int):=by rw[wrap_i64]<;>omega
 have w2:IntKind.i64.wrap ((a:Int)+(c:Int))=((a+c:Nat):Int):=by rw[wrap_i64]<;>omega
 have q1:∀z,io (z,())=some (wL z,()):=fun z=>rfl
 have q2:∀z,mo (z,())=some ((fun _=>(1:Int)) z,()):=fun z=>rfl
 have q3:∀z,(fun z:Int×Unit=>mp (z.1,(k,(a:Int),(c:Int),v,()),())) (z,())=some ((fun _=>v) z,()):=fun z=>rfl
 have c1:=wK io wL q1 l (by omega) a (a+1) (by omega)
 have c2:=wK io wL q1 l (by omega) a (a+c) (by omega)
 have c5:=wK mo (fun _=>1) q2 l (by omega) a l.length (by omega)
 have c6:=wK (fun z=>mp (z.1,(k,(a:Int),(c:Int),v,()),())) (fun _=>v) q3 l (by omega) a (a+c) (by omega)
 have m1:(if(a:Int)<(l.length:Int)then(a:Int)else(l.length:Int))=((min a l.length:Nat):Int):=by split<;>omega
 have m2:(if((a+c:Nat):Int)<(l.length:Int)then((a+c:Nat):Int)else(l.length:Int))=((min (a+c) l.length:Nat):Int):=by split<;>omega
 have cut:∀z:List Int,aH z.length none (some (.dat (.int .i64) (if(z.length:Int)<(8192:Int)then(z.length:Int)else(8192:Int))))=some (0,min z.length 8192):=fun z=>M7 _ _ _ (by split<;>omega) (Nat.min_le_left _ _)
 have cutT:∀z:List Int,List.drop 0 (List.take (min z.length 8192) z)=z.take 8192:=fun z=>by
  rw[List.drop_zero]
  by_cases hz:z.length≤8192
  ·rw[Nat.min_eq_left hz,List.take_of_length_le (Nat.le_refl _),List.take_of_length_le hz]
  ·rw[Nat.min_eq_right (by omega)]
 unfold lT
 simp only[hcl]
 rcases hk with rfl|rfl|rfl|rfl|rfl|rfl
 ·unfold fW
  simp only[show((1:Int)==1)=true from rfl,w1,c1,if_true,Int.toNat_natCast]
 ·unfold fW
  simp only[show((2:Int)==1)=false from rfl,show((2:Int)==2)=true from rfl,w2,c2,Int.toNat_natCast]
  rfl
 ·unfold fW
  have hd:iK (l,((min a l.length:Nat):Int),((min (a+c) l.length:Nat):Int),())=some (l.take (min a l.length)++l.drop (min (a+c) l.length),()):=by
   unfold iK P1
   simp only[Int.toNat_natCast]
   rw[if_pos (by omega)]
   rfl
  simp only[show((3:Int)==1)=false from rfl,show((3:Int)==2)=false from rfl,show((3:Int)==3)=true from rfl,w2,m1,m2,hd,Int.toNat_natCast]
  rfl
 ·rw[aaj]
  simp only[show((4:Int)==1)=false from rfl,show((4:Int)==2)=false from rfl,show((4:Int)==3)=false from rfl,show((4:Int)==4)=true from rfl,Int.toNat_natCast]
  by_cases hal:a≤l.length
  ·have hr:=Yn [] v c (by simp;omega)
   rw[List.nil_append]at hr
   have hi:iL (l,(a:Int),List.replicate c v,())=some (l.take a++List.replicate c v++l.drop a,()):=by
    unfold iL P2
    simp only[Int.toNat_natCast,List.length_replicate]
    have:=hc1 (by omega)
    rw[if_pos (by omega)]
    rfl
   have hd:decide ((a:Int)≤(l.length:Int))=true:=decide_eq_true (by omega)
   rw[if_pos hal]
   simp only[hd,hr,hi]
   rw[cut]
   exact congrArg (fun z:List Int=>some (z,())) (cutT _)
  ·have hd:decide ((a:Int)≤(l.length:Int))=false:=decide_eq_false (by omega)
   rw[if_neg hal]
   simp only[hd]
   rw[cut]
   exact congrArg (fun z:List Int=>some (z,())) (cutT _)
 ·unfold fW
  simp only[show((5:Int)==1)=false from rfl,show((5:Int)==2)=false from rfl,show((5:Int)==3)=false from rfl,show((5:Int)==4)=false from rfl,show((5:Int)==5)=true from rfl,c5,Int.toNat_natCast]
  rfl
 ·unfold fW
  simp only[show((6:Int)==1)=false from rfl,show((6:Int)==2)=false from rfl,show((6:Int)==3)=false from rfl,show((6:Int)==4)=false from rfl,show((6:Int)==5)=false from rfl,show((6:Int)==6)=true from rfl,w2,Int.toNat_natCast]
  simp only[c6]
  rfl
theorem Vz(l:List Int)(hl:l.length≤8192)(f:al.T)(hf:fe f=true):mh (l,f,())=some (fW l f,()):=by
 obtain⟨(k:Int),(a:Int),(c:Int),(v:Int),⟨⟩⟩:=f
 obtain⟨hk,⟨a,rfl,ha⟩,⟨c,rfl,hc,hc1⟩⟩:=xo hf
 have w1:IntKind.i64.wrap ((a:Int)+1)=((a+1:Nat):Int):=by rw[wrap_i64]<;>omega
 have w2:IntKind.i64.wrap ((a:Int)+(c:Int))=((a+c:Nat):Int):=by rw[wrap_i64]<;>omega
 have m1:(if(a:Int)<(l.length:Int)then(a:Int)else(l.length:Int))=((min a l.length:Nat):Int):=by split<;>omega
 have m2:(if((a+c:Nat):Int)<(l.length:Int)then((a+c:Nat):Int)else(l.length:Int))=((min (a+c) l.length:Nat):Int):=by split<;>omega
 have m3:(if((a+1:Nat):Int)<(l.length:Int)then((a+1:Nat):Int)else(l.length:Int))=((min (a+1) l.length:Nat):Int):=by split<;>omega
 have cut:∀z:List Int,aH z.length none (some (.dat (.int .i64) (if(8192:Int)<(z.length:Int)then(8192:Int)else(z.length:Int))))=some (0,min z.length 8192):=fun z=>M7 _ _ _ (by split<;>omega) (Nat.min_le_left _ _)
 have cutT:∀z:List Int,List.drop 0 (List.take (min z.length 8192) z)=z.take 8192:=fun z=>by
  rw[List.drop_zero]
  by_cases hz:z.length≤8192
  ·rw[Nat.min_eq_left hz,List.take_of_length_le (Nat.le_refl _),List.take_of_length_le hz]
  ·rw[Nat.min_eq_right (by omega)]
 have b1:aH l.length none (some (.dat (.int .i64) ((min a l.length:Nat):Int)))=some (0,min a l.length):=M7 _ _ _ rfl (Nat.min_le_right _ _)
 have b2:aH l.length (some (.dat (.int .i64) ((min (a+c) l.length:Nat):Int))) none=some (min (a+c) l.length,l.length):=RL _ _ _ rfl (Nat.min_le_right _ _)
 have b3:aH l.length (some (.dat (.int .i64) ((min a l.length:Nat):Int))) none=some (min a l.length,l.length):=RL _ _ _ rfl (Nat.min_le_right _ _)
 have o0:=y6 l (by omega)
 have o1:=y6 (l.take (min a l.length)) (by rw[List.length_take];omega)
 have key:jG (l,(k,(a:Int),(c:Int),v,()),(l.length:Int),((min a l.length:Nat):Int),((min (a+c) l.length:Nat):Int),())=some (.inr (fW l (k,(a:Int),(c:Int),v,()),())):=by
  unfold jG fW
  rcases hk with rfl|rfl|rfl|rfl|rfl|rfl
  ·have h:=Fd l (by omega) ((1:Int),(a:Int),(c:Int),v,()) (min a l.length) (min (a+1) l.length) (by omega) (by omega)
   simp only[show((1:Int)==1)=true from rfl,w1,m3,h,if_true,Int.toNat_natCast]
   rfl
  ·have h:=Fd l (by omega) ((2:Int),(a:Int),(c:Int),v,()) (min a l.length) (min (a+c) l.length) (by omega) (by omega)
   simp only[show((2:Int)==1)=false from rfl,show((2:Int)==5)=false from rfl,show((2:Int)==3)=false from rfl,show((2:Int)==4)=false from rfl,h,Int.toNat_natCast]
   rfl
  ·simp only[show((3:Int)==1)=false from rfl,show((3:Int)==5)=false from rfl,show((3:Int)==3)=true from rfl,b1,b2,aa,List.drop_zero,List.take_length,o1,Int.toNat_natCast]
   rw[aF (by rw[List.length_take,List.length_drop];omega)]
   rfl
  ·simp only[show((4:Int)==1)=false from rfl,show((4:Int)==5)=false from rfl,show((4:Int)==3)=false from rfl,show((4:Int)==4)=true from rfl,Int.toNat_natCast]
   by_cases hal:a≤l.length
   ·have hd:decide ((a:Int)>(l.length:Int))=false:=decide_eq_false (by omega)
    have hr:=tC c v (by omega)
    simp only[hd,b1,b3,aa,List.drop_zero,List.take_length,o1,hr]
    rw[aF (by rw[List.length_take,List.length_replicate];omega),aF (by rw[List.length_append,List.length_take,List.length_replicate,List.length_drop];omega)]
    simp only[cut,cutT]
    rw[if_pos hal,Nat.min_eq_left hal]
    rfl
   ·have hd:decide ((a:Int)>(l.length:Int))=true:=decide_eq_true (by omega)
    simp only[hd,o0,if_neg hal]
    rw[List.take_of_length_le hl]
    rfl
  ·have h:=Fd l (by omega) ((5:Int),(a:Int),(c:Int),v,()) (min a l.length) l.length (by omega) (Nat.le_refl _)
   simp only[show((5:Int)==1)=false from rfl,show((5:Int)==5)=true from rfl,h,Int.toNat_natCast]
   show _=some (Sum.inr (chg _ (min l.length l.length-min a l.length) (min a l.length) l,()))
   rw[Nat.min_self]
   rfl
  ·have h:=Fd l (by omega) ((6:Int),(a:Int),(c:Int),v,()) (min a l.length) (min (a+c) l.length) (by omega) (by omega)
   simp only[show((6:Int)==1)=false from rfl,show((6:Int)==5)=false from rfl,show((6:Int)==3)=false from rfl,show((6:Int)==4)=false from rfl,h,Int.toNat_natCast]
   rfl
 unfold mh
 simp only[w2,m1,m2,key]
 exact dZ _
theorem wM(l:List Int)(hl:l.length≤8192)(f:al.T):(fW l f).length≤8192:=by
 unfold fW vp
 split
 ·rw[zb];exact hl
 ·split
  ·rw[zb];exact hl
  ·split
   ·rw[List.length_append,List.length_take,List.length_drop]
    omega
   ·split
    ·rw[List.length_take];exact Nat.min_le_left _ _
    ·split
     ·rw[zb];exact hl
     ·rw[zb];exact hl
noncomputable def eC(l:List Int)(s:List al.T):List Int:=s.foldl fW l
theorem aaM(s:List al.T)(l:List Int)(hl:l.length≤8192):(eC l s).length≤8192:=ov (P:=fun z:List Int=>z.length≤8192) s l (fun z f _ hz=>wM z hz f) hl
theorem EG {s:List al.T}(h:eB s=true):s.length≤30∧∀f ∈ s,fe f=true:=by
 unfold eB at h
 simp only[Bool.and_eq_true,decide_eq_true_eq,List.all_eq_true]at h
 exact⟨by omega,h.2⟩
theorem RM(l:List Int)(hl:l.length≤8192)(s:List al.T)(hs:eB s=true):fP (l,s,())=some (eC l s,()):=by
 obtain⟨h1,h2⟩:=EG hs
 have hcl:=Ab l (by omega)
 have e:=nR (B:=es) s (fun z i=>(z,s,(s.length:Int),(i:Int),())) fW (fun z=>.inl (z,())) (fun z=>z.length≤8192) (fun z f _ hz=>wM z hz f) (fun z _=>by simp only[es,aJ]) (fun z i h hz=>by
  have hf:=Vy z hz s[i] (h2 _ (List.getElem_mem h))
  have hf':lT (z,(s[i].1,s[i].2.1,s[i].2.2.1,s[i].2.2.2.1,()),())=_:=hf
  simp only[es,aK h,av h (show s.length≤1099511627776 by omega),am h,aa]
  first|simp only[hf]|simp only[hf']) s.length 0 l (by omega) hl
 have e:ac es (l,s,(s.length:Int),(0:Int),())=_:=e
 unfold fP eC
 simp only[hcl,e,List.drop_zero]
theorem RN(l:List Int)(hl:l.length≤8192)(s:List al.T)(hs:eB s=true):g8 (l,s,())=some (eC l s,()):=by
 obtain⟨h1,h2⟩:=EG hs
 have hcl:=y6 l (by omega)
 have e:=nR (B:=f0) s (fun z i=>(s,z,(i:Int),())) fW (fun z=>.inl (z,())) (fun z=>z.length≤8192) (fun z f _ hz=>wM z hz f) (fun z _=>by simp only[f0,aJ]) (fun z i h hz=>by
  have hf:=Vz z hz s[i] (h2 _ (List.getElem_mem h))
  have hf':mh (z,(s[i].1,s[i].2.1,s[i].2.2.1,s[i].2.2.2.1,()),())=_:=hf
  simp only[f0,aK h,av h (show s.length≤1099511627776 by omega),am h,aa]
  first|simp only[hf]|simp only[hf']) s.length 0 l (by omega) hl
 have e:ac f0 (s,l,(0:Int),())=_:=e
 unfold g8 eC
 simp only[hcl,e,List.drop_zero]
end Go.Proofs.YthfgmmmeplanbaaGreatDoor

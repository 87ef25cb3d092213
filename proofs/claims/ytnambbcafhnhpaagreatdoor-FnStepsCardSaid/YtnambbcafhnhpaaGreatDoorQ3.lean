import Derived.Test.YtnambbcafhnhpaaGreatDoorQ2
namespace Go.Proofs.YtnambbcafhnhpaaGreatDoor
open Go.RowKit
set_option linter.unusedVariables false
set_option linter.unusedSimpArgs false
theorem Qz {T R X O:Type}{B:X→Option (X ⊕ O)}(l:List T)(e:List R→Nat→X)(g:T→List R)(N c:Nat)(hg:∀v ∈ l,(g v).length≤c)(fin:List R→O)(hend:∀s,B (e s l.length)=some (.inr (fin s)))
  (hstep:∀s i (h:i<l.length),s.length≤N+i*c→B (e s i)=some (.inl (e (s++g l[i]) (i+1)))) (s:List R) (hs:s.length≤N):ak B (e s 0)=some (fin (s++l.flatMap g)):=by
 have key:∀(k i:Nat) (s:List R),i+k=l.length→s.length≤N+i*c→ak B (e s i)=some (fin (s++(l.drop i).flatMap g)):=by
  intro k
  induction k with
  |zero=>
   intro i s hi hs
   have:i=l.length:=by omega
   subst this
   rw[aw,hend]
   simp
  |succ k ih=>
   intro i s hi hs
   have h1:i<l.length:=by omega
   rw[aw,hstep s i h1 hs]
   simp only
   have hg1:=hg l[i] (List.getElem_mem h1)
   rw[ih (i+1) _ (by omega) (by rw[List.length_append,Nat.add_mul];omega),List.drop_eq_getElem_cons h1]
   simp only[List.flatMap_cons,List.append_assoc]
 have:=key l.length 0 s (by omega) (by omega)
 simpa using this
theorem Y9:∀(l:List Int) (n:Int) (M:Nat),(∀b ∈ l,b=0∨b=1)→0≤n→n<M→M*2^l.length≤4611686018427387904→0≤l.foldl (fun n b=>IntKind.i64.wrap (IntKind.i64.wrap (2*n)+b)) n∧l.foldl (fun n b=>IntKind.i64.wrap (IntKind.i64.wrap (2*n)+b)) n<((M*2^l.length:Nat):Int)
 | [],n,M,_,h0,h1,_=>by
   show 0≤n∧n<((M*2^0:Nat):Int)
   rw[Nat.pow_zero,Nat.mul_one]
   exact⟨h0,h1⟩
 |b::l,n,M,hb,h0,h1,hk=>by
  have e:M*2^(l.length+1)=(2*M)*2^l.length:=by rw[Nat.pow_succ,Nat.mul_comm (2^l.length) 2,←Nat.mul_assoc,Nat.mul_comm M 2]
  have hk:M*2^(l.length+1)≤4611686018427387904:=hk
  rw[e]at hk
  have hM:2*M≤(2*M)*2^l.length:=Nat.le_mul_of_pos_right _ (Nat.two_pow_pos _)
  have hb0:=hb b (by simp)
  have w1:IntKind.i64.wrap (2*n)=2*n:=by rw[wrap_i64]<;>omega
  have w2:IntKind.i64.wrap (2*n+b)=2*n+b:=by rw[wrap_i64]<;>omega
  have ih:=Y9 l (2*n+b) (2*M) (fun c hc=>hb c (by simp[hc])) (by omega) (by omega) hk
  show 0≤l.foldl _ (IntKind.i64.wrap (IntKind.i64.wrap (2*n)+b))∧l.foldl _ (IntKind.i64.wrap (IntKind.i64.wrap (2*n)+b))<((M*2^(l.length+1):Nat):Int)
  rw[w1,w2,e]
  exact ih
theorem agU(l:List Int)(h:∀b ∈ l,b=0∨b=1):∀v ∈ yd l,0≤v∧v≤255:=by
 intro v hv
 obtain⟨k,_,rfl⟩:=List.mem_map.1 hv
 have hl:(cA l k).length≤8:=by rw[rG];omega
 have hp:2^(cA l k).length≤2^8:=Nat.pow_le_pow_right (by omega) hl
 have:=Y9 (cA l k) 0 1 (fun b hb=>h b (List.mem_of_mem_drop (List.mem_of_mem_take hb))) (by omega) (by omega) (by omega)
 unfold gP
 omega
theorem C1 {f:bp.T}(h:bZ f=true):bf f.1 0 3=true∧bf f.2.1 0 7=true∧kw f.1 f.2.2.2.1.length=true∧lm f.2.2.2.1=true∧((f.1 != (0:Int))=true→co f.2.2.1=true):=by
 unfold bZ at h
 simp only[Bool.and_eq_true]at h
 obtain⟨h1,h2,h3,h4,h5⟩:=h
 refine⟨h1,h2,h3,h4,fun hk=> ?_⟩
 have hk0:(f.1==(0:Int))=false:=by simpa using hk
 rw[hk0]at h5
 simp only[Bool.false_eq_true,if_false]at h5
 split at h5
 ·simp only[Bool.and_eq_true]at h5
  exact h5.1
 ·exact h5
theorem KV {f:bp.T}(h:bZ f=true):(∀v ∈ bC f,0≤v∧v≤255)∧((bC f).length:Int)=oe f.1 f.2.2.2.1.length∧(bC f).length≤50:=by
 obtain⟨h1,h2,h3,h4,h5⟩:=C1 h
 have hd:=s6 h
 have k1:=bl.1 h1
 have k2:=bl.1 h2
 obtain⟨(k:Int),(q:Int),st,(d:List Int),⟨⟩⟩:=f
 simp only at h1 h2 h3 h4 h5 hd k1 k2
 have w1:IntKind.i64.wrap (k*64)=k*64:=by rw[wrap_i64]<;>omega
 have w2:IntKind.i64.wrap (q*8)=q*8:=by rw[wrap_i64]<;>omega
 have w3:IntKind.i64.wrap (k*64+q*8)=k*64+q*8:=by rw[wrap_i64]<;>omega
 have hb:∀v ∈ d,0≤v∧v≤255:=by
  unfold lm at h4
  simp only[Bool.and_eq_true,List.all_eq_true]at h4
  exact fun v hv=>bl.1 (h4.2 v hv)
 have e:bC (k,q,st,d,())=([k*64+q*8]++(if k != (0:Int)then yd (mP st)else []))++(if eC k then(d.length:Int)::d else []):=by
  unfold bC
  simp only[w1,w2,w3]
 rw[e]
 refine⟨fun v hv=> ?_, ?_, ?_⟩
 ·simp only[List.mem_append,List.mem_singleton]at hv
  rcases hv with(rfl|hv)|hv
  ·omega
  ·split at hv
   ·rename_i hk
    exact agU _ (Uw st (h5 hk)) v hv
   ·cases hv
  ·split at hv
   ·rcases List.mem_cons.1 hv with rfl|hv
    ·omega
    ·exact hb v hv
   ·cases hv
 ·unfold oe
  simp only[List.length_append]
  split<;>split<;>simp[jh]<;>omega
 ·simp only[List.length_append]
  split<;>split<;>simp[jh]<;>omega
def cf(f:bp.T)(r:Nat)(st:ao.T):List Int:=bC f++ [((bP f.1 (bC f) r st / 65536:Nat):Int),((bP f.1 (bC f) r st / 256 % 256:Nat):Int),((bP f.1 (bC f) r st % 256:Nat):Int)]
theorem ab8(f:bp.T)(r:Nat)(st:ao.T)(hf:bZ f=true)(hr:r<16777216)(hst:co st=true):DZ (f,(r:Int),st,())=some (cf f r st,()):=by
 obtain⟨h1,_,h2⟩:=KV hf
 have hb:im (f,())=some (bC f,()):=abY (f,()) (by have:=s6 hf;show f.2.2.2.1.length≤_;omega)
 have hc:=YW f.1 (bC f) r st (by omega) h1 hr hst
 have ht:=Sj (bP f.1 (bC f) r st) (uq f.1 (bC f) r st hr)
 have e0:DZ (f,(r:Int),st,())=match im (f,())with
  |none=>none
  |some v1=>match ko (f.1,v1.1,(r:Int),st,())with
   |none=>none
   |some v2=>match nf (v2.1,())with
    |none=>none
    |some v3=>bd (v1.1.length+v3.1.length) (some ((v1.1++v3.1),())):=rfl
 rw[e0]
 simp only[hb,hc,ht]
 rw[aU (by simp;omega)]
 rfl
theorem ab9(f:bp.T)(r:Nat)(st:ao.T)(hf:bZ f=true)(hr:r<16777216)(hst:co st=true):sW (f,(r:Int),st,())=some (cf f r st,()):=by
 obtain⟨h1,_,h2⟩:=KV hf
 have hb:cu (f,())=some (bC f,()):=abZ (f,()) (by have:=s6 hf;show f.2.2.2.1.length≤_;omega)
 have hc:=YX f.1 (bC f) r st (by omega) h1 hr hst
 have hn:=uq f.1 (bC f) r st hr
 have ht:=Sj (bP f.1 (bC f) r st) hn
 generalize hq:bP f.1 (bC f) r st=q at hc hn ht
 have e1: [(IntKind.i64.wrap (Int.tdiv (q:Int) (65536:Int))),(Int.tmod (IntKind.i64.wrap (Int.tdiv (q:Int) (256:Int))) (256:Int)),(Int.tmod (q:Int) (256:Int))]= [((q / 65536:Nat):Int),((q / 256 % 256:Nat):Int),((q % 256:Nat):Int)]:=by
  have a1:Int.tdiv (q:Int) 65536=((q / 65536:Nat):Int):=rfl
  have a2:Int.tdiv (q:Int) 256=((q / 256:Nat):Int):=rfl
  have a3:Int.tmod (q:Int) 256=((q % 256:Nat):Int):=rfl
  have b1:IntKind.i64.wrap ((q / 65536:Nat):Int)=((q / 65536:Nat):Int):=by rw[wrap_i64]<;>omega
  have b2:IntKind.i64.wrap ((q / 256:Nat):Int)=((q / 256:Nat):Int):=by rw[wrap_i64]<;>omega
  rw[a1,a2,a3,b1,b2]
  rfl
 have e0:sW (f,(r:Int),st,())=match cu (f,())with
  |none=>none
  |some v1=>match mm (f.1,v1.1,(r:Int),st,())with
   |none=>none
   |some v2=>bd (v1.1.length+ [(IntKind.i64.wrap (Int.tdiv v2.1 (65536:Int))),(Int.tmod (IntKind.i64.wrap (Int.tdiv v2.1 (256:Int))) (256:Int)),(Int.tmod v2.1 (256:Int))].length) (some ((v1.1++ [(IntKind.i64.wrap (Int.tdiv v2.1 (65536:Int))),(Int.tmod (IntKind.i64.wrap (Int.tdiv v2.1 (256:Int))) (256:Int)),(Int.tmod v2.1 (256:Int))]),())):=rfl
 rw[e0]
 simp only[hb,hc,e1]
 rw[aU (by simp;omega)]
 unfold cf
 rw[hq]
theorem E9 {f:bp.T}{r:Nat}{st:ao.T}(hf:bZ f=true)(hr:r<16777216):(∀v ∈ cf f r st,0≤v∧v≤255)∧((cf f r st).length:Int)=oe f.1 f.2.2.2.1.length+3∧(cf f r st).length≤53:=by
 obtain⟨h1,h2,h3⟩:=KV hf
 have hn:=uq f.1 (bC f) r st hr
 unfold cf
 refine⟨fun v hv=> ?_, ?_, ?_⟩
 ·rcases List.mem_append.1 hv with hv|hv
  ·exact h1 v hv
  ·simp only[List.mem_cons,List.not_mem_nil,or_false]at hv
   rcases hv with rfl|rfl|rfl<;>omega
 ·simp only[List.length_append,List.length_cons,List.length_nil]
  omega
 ·simp only[List.length_append,List.length_cons,List.length_nil]
  omega
def gK(l:List Int):List Int:=(List.replicate 8 (0:Int)++ [1])++l.flatMap (fun b=>[1,0]++bq b 8)++ [0,1]
theorem N3(l:List Int):((List.replicate 8 (0:Int)++ [1])++l.flatMap (fun b=>[1,0]++bq b 8)).length=9+10*l.length:=by
 have:(l.flatMap (fun b=>[1,0]++bq b 8)).length=10*l.length:=by
  induction l with
  |nil=>rfl
  |cons b l ih=>
   rw[List.flatMap_cons,List.length_append,ih]
   simp only[List.length_append,List.length_cons,List.length_nil,dU]
   omega
 rw[List.length_append,this]
 simp only[List.length_append,List.length_replicate,List.length_cons,List.length_nil]
theorem vp(l:List Int):(gK l).length=11+10*l.length:=by
 unfold gK
 rw[List.length_append,N3]
 simp only[List.length_cons,List.length_nil]
 omega
theorem Za {l:List Int}(h:∀v ∈ l,0≤v∧v≤255):∀b ∈ gK l,b=0∨b=1:=by
 intro b hb
 unfold gK at hb
 simp only[List.mem_append,List.mem_replicate,List.mem_flatMap,List.mem_cons,List.not_mem_nil,or_false]at hb
 rcases hb with((⟨_,rfl⟩|rfl)|⟨v,hv,(rfl|rfl)|hb⟩)|(rfl|rfl)
 ·exact .inl rfl
 ·exact .inr rfl
 ·exact .inr rfl
 ·exact .inl rfl
 ·obtain⟨h0,h1⟩:=h v hv
  obtain⟨n,rfl⟩:=Int.eq_ofNat_of_zero_le h0
  exact Qp n (by omega) 8 b hb
 ·exact .inl rfl
 ·exact .inr rfl
theorem agV(l:List Int)(hl:l.length≤1000):wq (l,(8:Int),())=some (gK l,()):=by
 have e:=Qz (B:=km) l (fun s i=>(s,l,(l.length:Int),(i:Int),())) (fun b=>[1,0]++bq b 8) 9 10 (fun v _=>by simp[dU]) (fun s=>.inl (s,())) (fun s=>by simp only[km,bQ]) (fun s i h hs=>by
  have ha:=sv (s++ [1,0]) l[i] 8 (by omega) (by simp;omega)
  have ha:ct (s++ [1,0],l[i],(8:Int),())=_:=ha
  simp only[km,bH h,a7 h (show l.length≤1099511627776 by omega),aJ h,ac]
  rw[aU (by simp;omega)]
  simp only[ha,List.append_assoc]) (List.replicate 8 (0:Int)++ [1]) (by simp)
 have e:ak km ((List.replicate (8:Int).toNat (0:Int))++ [1],l,(l.length:Int),(0:Int),())=_:=e
 have hlen:=N3 l
 unfold wq
 simp only[e]
 rw[if_pos (show(0:Int)≤8∧(8:Int)≤8 from⟨by decide,by decide⟩),aU (by decide),aU (by decide),aU (by rw[hlen];show 9+10*l.length+2≤_;omega)]
 rfl
theorem agW(l:List Int)(hl:l.length≤1000):uf (l,(8:Int),())=some (gK l,()):=by
 have e:=Qz (B:=i8) l (fun s i=>(l,s,(i:Int),())) (fun b=>[1,0]++bq b 8) 9 10 (fun v _=>by simp[dU]) (fun s=>.inl (s,())) (fun s=>by simp only[i8,bQ]) (fun s i h hs=>by
  have hd:List.drop i (List.take (i+1) l)= [l[i]]:=by
   rw[List.drop_take,Nat.add_sub_cancel_left,List.drop_eq_getElem_cons h]
   rfl
  have hb:=NZ [l[i]] (by simp)
  have hb1:dN [l[i]]=bq l[i] 8:=by simp[dN]
  have hbd:aZ l.length (some (.dat (.int .i64) ((i:Nat):Int))) (some (.dat (.int .i64) (((i+1:Nat):Int))))=some (i,i+1):=by
   unfold aZ
   simp[lQ,kT]
   omega
  simp only[i8,bH h,a7 h (show l.length≤1099511627776 by omega)]
  rw[aU (by simp;omega),hbd]
  simp only[ac,hd,hb,hb1]
  rw[aU (by simp[dU];omega)]
  simp only[List.append_assoc]) (List.replicate 8 (0:Int)++ [1]) (by simp)
 have e:ak i8 (l,(List.replicate (8:Int).toNat (0:Int))++ [1],(0:Int),())=_:=e
 have hlen:=N3 l
 unfold uf
 simp only[e]
 rw[if_pos (show(0:Int)≤8∧(8:Int)≤8 from⟨by decide,by decide⟩),aU (by decide),aU (by decide),aU (by rw[hlen];show 9+10*l.length+2≤_;omega)]
 rfl
end Go.Proofs.YtnambbcafhnhpaaGreatDoor
namespace Go.Proofs.YtnambbcafhnhpaaGreatDoor
open Go.RowKit
set_option linter.unusedVariables false
set_option linter.unusedSimpArgs false
theorem F7(n:Nat)(h:n≤1099511627776):qm ((n:Int),())=some (List.replicate n (1:Int),()):=by
 have hr:Q9 [(1:Int)] (n:Int)=some (List.replicate n 1):=by
  show(if(0:Int)≤(n:Int)∧(n:Int)≤1099511627776 then some (List.replicate ((n:Int)).toNat (1:Int))else none)=_
  rw[if_pos ⟨by omega,by omega⟩,Int.toNat_natCast]
 have hs:lu ([(1:Int)],(n:Int),())=some (List.replicate n (1:Int),()):=by
  unfold lu
  simp only[hr,ac]
 unfold qm
 simp only[hs]
theorem WY(x:Int):∀(n:Nat) (acc:List Int),acc.length+n≤1099511627776→ak kQ ((n:Int),x,acc,())=some (.inl (acc++List.replicate n x,()))
 |0,acc,_=>by
  rw[aw]
  have hd:decide (((0:Nat):Int)>0)=false:=by decide
  simp only[kQ,hd,List.replicate_zero,List.append_nil]
 |n+1,acc,h=>by
  rw[aw]
  have hd:decide (((n+1:Nat):Int)>0)=true:=decide_eq_true (by omega)
  have hw:IntKind.i64.wrap (((n+1:Nat):Int)-1)=(n:Int):=by rw[wrap_i64]<;>omega
  simp only[kQ,hd,hw]
  rw[aU (by show acc.length+1≤_;omega)]
  simp only
  rw[WY x n (acc++ [x]) (by simp;omega),List.append_assoc,List.singleton_append,List.replicate_succ]
theorem yU(n:Nat)(x:Int)(h:n≤1099511627776):fI ((n:Int),x,())=some (List.replicate n x,()):=by
 have e:=WY x n [] (by simp;omega)
 unfold fI
 simp only[e,List.nil_append]
theorem aca(v:Int)(n:Nat):∀(k i:Nat) (acc:List Int),i+k=n→acc.length+k≤1099511627776→n≤1099511627776→ak lg (acc,v,(n:Int),(i:Int),())=some (.inl (acc++List.replicate k v,()))
 |0,i,acc,hi,_,_=>by
  have hi:i=n:=by omega
  subst hi
  rw[aw]
  simp only[lg,bQ,List.replicate_zero,List.append_nil]
 |k+1,i,acc,hi,h,hn=>by
  have hlt:i<n:=by omega
  rw[aw]
  simp only[lg,bH hlt,a7 hlt hn]
  rw[aU (by show acc.length+1≤_;omega)]
  simp only
  rw[aca v n k (i+1) (acc++ [v]) (by omega) (by simp;omega) hn,List.append_assoc,List.singleton_append,List.replicate_succ]
theorem aey(acc:List Int)(v:Int)(n:Nat)(h:acc.length+n≤1099511627776):uX (acc,v,(n:Int),())=some (acc++List.replicate n v,()):=by
 have e:=aca v n n 0 acc (by omega) h (by omega)
 have e:ak lg (acc,v,(n:Int),(0:Int),())=_:=e
 unfold uX
 simp only[e]
def cj(l:List Int):List Int:=l.flatMap fun c=>List.replicate 8 c
theorem rC(l:List Int):(cj l).length=8*l.length:=by
 unfold cj
 induction l with
 |nil=>rfl
 |cons c l ih=>rw[List.flatMap_cons,List.length_append,ih,List.length_replicate,List.length_cons];omega
theorem adL {l:List Int}(h:∀b ∈ l,b=0∨b=1)(hl:l.length≤8192):cG l=true:=by
 unfold cG
 simp only[Bool.and_eq_true,List.all_eq_true,decide_eq_true_eq]
 refine⟨by omega,fun v hv=>bl.2 ?_⟩
 rcases h v hv with rfl|rfl<;>omega
theorem acb(l:List Int)(h:∀b ∈ l,b=0∨b=1)(hl:l.length≤1024):lh (l,())=some (cj l,(0:Int),()):=by
 have hb:=Qj l (by omega)
 rw[adL h (by omega)]at hb
 have e:=Qz (B:=el) l (fun s i=>(s,l,(l.length:Int),(i:Int),())) (fun c=>List.replicate 8 c) 0 8 (fun v _=>by simp) (fun s=>.inl (s,())) (fun s=>by simp only[el,bQ]) (fun s i h hs=>by
  have ha:uX (s,l[i],(8:Int),())=some (s++List.replicate 8 l[i],()):=aey s l[i] 8 (by omega)
  simp only[el,bH h,a7 h (show l.length≤1099511627776 by omega),aJ h,ac,ha]) [] (by simp)
 have e:ak el ([],l,(l.length:Int),(0:Int),())=_:=e
 have hw:decide (IntKind.i64.wrap ((l.length:Int)*8)>8192)=false:=by
  have:IntKind.i64.wrap ((l.length:Int)*8)=(l.length:Int)*8:=by rw[wrap_i64]<;>omega
  rw[this]
  exact decide_eq_false (by omega)
 unfold lh
 simp only[hb,Bool.not_true,hw,e,List.nil_append]
 rfl
theorem QA(l w:List Int)(j:Nat)(hj:j<l.length)(hj2:j<w.length)(hw:w[j]=8):∀(k i:Nat) (acc:List Int),i+k=8→acc.length+k≤1099511627776→ak gN (l,w,acc,(j:Int),(i:Int),())=some (.inl (l,w,acc++List.replicate k l[j],(j:Int),()))
 |0,i,acc,hi,_=>by
  have hi:i=8:=by omega
  subst hi
  rw[aw]
  have hd:decide (((8:Nat):Int)<8)=false:=by decide
  simp only[gN,aJ hj2,ac,hw,hd,List.replicate_zero,List.append_nil]
 |k+1,i,acc,hi,h=>by
  rw[aw]
  have hd:decide ((i:Int)<8)=true:=by simp;omega
  have hn:IntKind.i64.wrap ((i:Int)+1)=((i+1:Nat):Int):=by rw[wrap_i64]<;>omega
  simp only[gN,aJ hj2,aJ hj,ac,hw,hd,hn]
  rw[aU (by show acc.length+1≤_;omega)]
  simp only
  rw[QA l w j hj hj2 hw k (i+1) (acc++ [l[j]]) (by omega) (by simp;omega),List.append_assoc,List.singleton_append,List.replicate_succ]
theorem acd(l:List Int)(hl:l.length≤1024):pP (l,())=some (cj l,()):=by
 have hq:fI ((l.length:Int),(8:Int),())=some (List.replicate l.length (8:Int),()):=yU l.length 8 (by omega)
 have e:=Qz (B:=gO) l (fun s i=>(l,List.replicate l.length (8:Int),s,(i:Int),())) (fun c=>List.replicate 8 c) 0 8 (fun v _=>by simp) (fun s=>.inl (s,())) (fun s=>by simp only[gO,bQ]) (fun s i h hs=>by
  have ha:ak gN (l,List.replicate l.length (8:Int),s,(i:Int),(0:Int),())=_:=QA l (List.replicate l.length (8:Int)) i h (by simpa using h) (by simp) 8 0 s (by omega) (by omega)
  simp only[gO,bH h,ha,a7 h (show l.length≤1099511627776 by omega)]) [] (by simp)
 have e:ak gO (l,List.replicate l.length (8:Int),[],(0:Int),())=_:=e
 unfold pP zX
 simp only[hq,e,List.nil_append]
 rfl
noncomputable def c7(m:aA.T)(st:ao.T)(f:bp.T):Bool:=(bZ f&&lE (cp m st) f)&&(!(f.1 != (0:Int))||et ao f.2.2.1 st)
theorem afl(d:cq.T)(f:bp.T)(hd:og d=true)(hl:f.2.2.2.1.length≤1099511627776):lc (d,f,())=some (bZ f&&lE d f,()):=by
 have h1:gT (d,())=some (true,()):=by rw[←hd];exact ab3 (d,())
 have h2:ga (f,())=some (bZ f,()):=YV (f,()) hl
 have h3:zH (d,f,())=some (lE d f,()):=Y7 (d,f,())
 have e0:lc (d,f,())=match gT (d,())with
  |none=>none
  |some v1=>match v1.1 with
   |true=>match ga (f,())with
    |none=>none
    |some v2=>match v2.1 with
     |true=>match zH (d,f,())with
      |none=>none
      |some v3=>some (v3.1,())
     |false=>some (false,())
   |false=>some (false,()):=rfl
 rw[e0,h1]
 simp only[h2]
 cases bZ f
 ·rfl
 ·simp only[h3,Bool.true_and]
theorem afm(d:cq.T)(f:bp.T)(hd:og d=true)(hl:f.2.2.2.1.length≤1099511627776):em (d,f,())=some (bZ f&&lE d f,()):=by
 have h1:fF (d,())=some (true,()):=by rw[←hd];exact WM (d,())
 have h2:dt (f,())=some (bZ f,()):=Sh (f,()) hl
 cases hf:bZ f with
 |true=>rw[Y8 d f hd hf hl,Bool.true_and]
 |false=>
  rw[hf]at h2
  have e0:em (d,f,())=match fF (d,())with
   |none=>none
   |some v1=>match v1.1 with
    |true=>match dt (f,())with
     |none=>none
     |some v2=>match v2.1 with
      |true=>_
      |false=>some (false,())
    |false=>some (false,()):=rfl
  rw[e0,h1]
  simp only[h2]
  rfl
theorem ace(m:aA.T)(st:ao.T)(f:bp.T)(h:bK m=true)(hb:bc m st=true)(hl:f.2.2.2.1.length≤1099511627776):jH (m,st,f,())=some (c7 m st f,()):=by
 obtain⟨_,hd,hq⟩:=fL m st h hb
 have hf:=afl (cp m st) f hq hl
 have e0:jH (m,st,f,())=match aN (m,st,())with
  |none=>none
  |some v1=>match lc (v1.1,f,())with
   |none=>none
   |some v2=>match v2.1 with
    |true=>match(!(f.1 != (0:Int)))with
     |true=>some (true,())
     |false=>some ((et ao f.2.2.1 st),())
    |false=>some (false,()):=rfl
 rw[e0,hd]
 simp only[hf]
 unfold c7
 cases bZ f&&lE (cp m st) f<;>cases (!(f.1 != (0:Int)))<;>simp
theorem agX(m:aA.T)(st:ao.T)(f:bp.T)(h:bK m=true)(hb:bc m st=true)(hl:f.2.2.2.1.length≤1099511627776):oz (m,st,f,())=some (c7 m st f,()):=by
 obtain⟨hd,_,hq⟩:=fL m st h hb
 have hf:=afm (cp m st) f hq hl
 have e0:oz (m,st,f,())=match dJ (m,st,())with
  |none=>none
  |some v1=>match em (v1.1,f,())with
   |none=>none
   |some v2=>match v2.1 with
    |true=>match(!(f.1 != (0:Int)))with
     |true=>some (true,())
     |false=>some ((et ao f.2.2.1 st),())
    |false=>some (false,()):=rfl
 rw[e0,hd]
 simp only[hf]
 unfold c7
 cases bZ f&&lE (cp m st) f<;>cases (!(f.1 != (0:Int)))<;>simp
noncomputable def jL(m:aA.T)(st:ao.T)(f:bp.T):Int:=match bK m with
 |false=>1
 |true=>match bc m st with
  |false=>2
  |true=>match c7 m st f with
   |false=>5
   |true=>0
theorem afn(m:aA.T)(st:ao.T)(f:bp.T)(hz:ex m)(hl:f.2.2.2.1.length≤1099511627776):t6 (m,st,f,())=some (jL m st f,()):=by
 have hM:la (m,())=_:=Qy m hz
 have e0:t6 (m,st,f,())=match ej (m,st,())with
  |none=>none
  |some v1=>match(v1.1 != (0:Int))with
   |true=>some (v1.1,())
   |false=>match jH (m,st,f,())with
    |none=>none
    |some v2=>match(!v2.1)with
     |true=>some ((5:Int),())
     |false=>some ((0:Int),()):=rfl
 have e1:ej (m,st,())=match la (m,())with
  |none=>none
  |some v1=>match(!v1.1)with
   |true=>some ((1:Int),())
   |false=>match lX (m,st,())with
    |none=>none
    |some v2=>match(!v2.1)with
     |true=>some ((2:Int),())
     |false=>some ((0:Int),()):=rfl
 rw[e0,e1,hM]
 unfold jL
 rcases Bool.eq_false_or_eq_true (bK m)with h1|h1<;>simp only[h1,Bool.not_true,Bool.not_false]
 ·have hB:=Uy m st h1
  simp only[hB]
  rcases Bool.eq_false_or_eq_true (bc m st)with h2|h2<;>simp only[h2,Bool.not_true,Bool.not_false]
  ·have hS:=ace m st f h1 h2 hl
   have k0:((0:Int) != 0)=false:=rfl
   simp only[k0,hS]
   cases c7 m st f<;>rfl
  ·rfl
 ·rfl
end Go.Proofs.YtnambbcafhnhpaaGreatDoor
namespace Go.Proofs.YtnambbcafhnhpaaGreatDoor
open Go.RowKit
set_option linter.unusedVariables false
set_option linter.unusedSimpArgs false
theorem agY(n:Nat)(hn:n≤1099511627776):mS ((),(n:Int),())=some ([],()):=by
 unfold mS
 have w0:IntKind.i64.wrap ((0:Int)-0)=0:=by decide
 have w1:IntKind.i64.wrap ((n:Int)-0)=n:=by rw[Int.sub_zero,wrap_i64]<;>omega
 have n0:decide ((n:Int)<0)=false:=by simp
 simp only[w0,w1,n0]
 by_cases h:(n:Int)>0
 ·have b1:aZ 0 none (some (.dat (.int .i64) (0:Int)))=some (0,0):=rfl
  have b2:aZ (List.replicate ((n:Int).toNat) (0:Int)).length none (some (.dat (.int .i64) (0:Int)))=some (0,0):=by
   have hh:(0:Int)≤0∧(0:Int)≤0∧(0:Int)≤((List.replicate ((n:Int).toNat) (0:Int)).length:Int):=⟨by omega,by omega,by omega⟩
   simp only[aZ,lQ,kT]
   exact if_pos hh
  have hp:(0:Int)≤(n:Int):=by omega
  simp only[decide_eq_true h,b1,ac,hp,if_true]
  rw[aU (by rw[Int.toNat_natCast];exact hn),b2]
  rfl
 ·simp only[decide_eq_false h]
theorem adM(a b:List Int)(h:a.length+b.length≤1099511627776):iO ([a,b],())=some (a++b,()):=by
 unfold iO
 have w1:IntKind.i64.wrap ((0:Int)+(a.length:Int))=(a.length:Int):=by rw[Int.zero_add,wrap_i64]<;>omega
 have w2:IntKind.i64.wrap ((a.length:Int)+(b.length:Int))=((a.length+b.length:Nat):Int):=by rw[←Int.natCast_add,wrap_i64]<;>omega
 have n1:decide ((a.length:Int)<0)=false:=by simp
 have n2:decide (((a.length+b.length:Nat):Int)<0)=false:=by simp;omega
 have i0:aI [a,b] (0:Int)=some a:=rfl
 have i1:aI [a,b] (1:Int)=some b:=rfl
 have k1:IntKind.i64.wrap ((0:Int)+1)=1:=by decide
 have k2:IntKind.i64.wrap ((1:Int)+1)=2:=by decide
 have c0:decide ((0:Int)<2)=true:=by decide
 have c1:decide ((1:Int)<2)=true:=by decide
 have c2:decide ((2:Int)<2)=false:=by decide
 have e1:ak cZ ([a,b],(0:Int),[a,b],((2:Nat):Int),(0:Int),())=some (.inl ([a,b],((a.length+b.length:Nat):Int),())):=by
  rw[aw]
  simp only[cZ,i0,ac,w1,n1,k1,c0,show(((2:Nat):Int))=2 from rfl]
  rw[aw]
  simp only[cZ,i1,ac,w2,n2,k2,c1]
  rw[aw]
  simp only[cZ,c2]
 have e2:ak cR ([],[a,b],((2:Nat):Int),(0:Int),())=some (.inl (a++b,())):=by
  rw[aw]
  simp only[cR,i0,ac,k1,c0,show(((2:Nat):Int))=2 from rfl]
  rw[aU (by simp;omega)]
  simp only[List.nil_append]
  rw[aw]
  simp only[cR,i1,ac,k2,c1]
  rw[aU (by omega)]
  simp only
  rw[aw]
  simp only[cR,c2]
 have e1:ak cZ ([a,b],(0:Int),[a,b],(([a,b]:List (List Int)).length:Int),(0:Int),())=_:=e1
 have e2:ak cR ([],[a,b],(([a,b]:List (List Int)).length:Int),(0:Int),())=_:=e2
 simp only[e1,agY _ h,e2]
theorem yI {m:aA.T}{st:ao.T}{f:bp.T}(h:c7 m st f=true):bZ f=true∧lE (cp m st) f=true:=by
 unfold c7 at h
 simp only[Bool.and_eq_true]at h
 exact h.1
theorem WZ {m:aA.T}{st:ao.T}{f:bp.T}(r:Nat)(hr:r<16777216)(h:bK m=true)(hb:bc m st=true)(hs:c7 m st f=true):
  ∃D:Nat,(cp m st).2.2.2.1=(D:Int)∧19+10*(cf f r st).length+12≤D∧D≤1000:=by
 obtain⟨hf,ht⟩:=yI hs
 obtain⟨_,_,hq⟩:=fL m st h hb
 obtain⟨_,hl,_⟩:=E9 (st:=st) hf hr
 generalize cp m st=d at hq ht
 unfold og at hq
 unfold lE at ht
 simp only[Bool.and_eq_true,beq_iff_eq]at hq ht
 obtain⟨q1,q2,q3,q4,q5⟩:=hq
 obtain⟨t1,t2,t3⟩:=ht
 have hsz:=Ao q3
 have hbn:=F3 d.2.1 d.2.2.1 hsz.1 hsz.2
 rw[t1,t2]at hl
 have q5:=bl.1 q5
 have hc:An d.2.1 d.2.2.1=11+10*(oe d.2.1 d.2.2.1+3):=rfl
 rw[hc]at q5
 generalize (cf f r st).length=k at hl ⊢
 generalize oe d.2.1 d.2.2.1=bn at hl hbn q5
 have hw:IntKind.i64.wrap (11+10*(bn+3)+20)=11+10*(bn+3)+20:=by rw[wrap_i64]<;>omega
 rw[hw]at q5
 generalize d.2.2.2.1=D at q5
 have hD:(0:Int)≤D:=by omega
 obtain⟨D,rfl⟩:=Int.eq_ofNat_of_zero_le hD
 exact⟨D,rfl,by omega,by omega⟩
def d5(m:aA.T)(st:ao.T)(f:bp.T):List Int:=(List.replicate 8 (1:Int)++gK (cf f m.1.toNat st))++List.replicate ((cp m st).2.2.2.1.toNat-(19+10*(cf f m.1.toNat st).length)) 1
theorem Sq {m:aA.T}{st:ao.T}{f:bp.T}(h:jL m st f=0):bK m=true∧bc m st=true∧c7 m st f=true:=by
 unfold jL at h
 cases h1:bK m<;>rw[h1]at h
 ·cases h
 ·cases h2:bc m st<;>rw[h2]at h
  ·cases h
  ·cases h3:c7 m st f<;>rw[h3]at h
   ·cases h
   ·exact⟨rfl,rfl,rfl⟩
theorem wG {m:aA.T}{st:ao.T}(h:bc m st=true):co st=true:=by
 unfold bc at h
 simp only[Bool.and_eq_true]at h
 exact h.1
theorem N4 {m:aA.T}{st:ao.T}{f:bp.T}(h:jL m st f=0):(d5 m st f).length≤1000∧∀b ∈ d5 m st f,b=0∨b=1:=by
 obtain⟨h1,h2,h3⟩:=Sq h
 obtain⟨r,hr,hr2⟩:=vo h1
 obtain⟨D,hD,d1,d2⟩:=WZ r hr2 h1 h2 h3
 obtain⟨s1,_,_⟩:=E9 (st:=st) (yI h3).1 hr2
 unfold d5
 rw[hD,hr,Int.toNat_natCast,Int.toNat_natCast]
 refine⟨?_,fun b hb=> ?_⟩
 ·rw[List.length_append,List.length_append,vp,List.length_replicate,List.length_replicate]
  omega
 ·simp only[List.mem_append,List.mem_replicate]at hb
  rcases hb with(⟨_,rfl⟩|hb)|⟨_,rfl⟩
  ·exact .inr rfl
  ·exact Za s1 b hb
  ·exact .inr rfl
theorem Yk(m:aA.T)(st:ao.T)(f:bp.T)(hz:ex m)(hl:f.2.2.2.1.length≤1099511627776):rn (m,st,f,())=some (if jL m st f=0 then(d5 m st f,(0:Int),())else([],jL m st f,())):=by
 have hc:=afn m st f hz hl
 have e0:rn (m,st,f,())=match t6 (m,st,f,())with
  |none=>none
  |some v1=>match(v1.1 != (0:Int))with
   |true=>some ([],v1.1,())
   |false=>match qm ((8:Int),())with
    |none=>none
    |some v2=>match DZ (f,m.1,st,())with
     |none=>none
     |some v3=>match wq (v3.1,(8:Int),())with
      |none=>none
      |some v4=>match iO ([v2.1,v4.1],())with
       |none=>none
       |some v5=>match aN (m,st,())with
        |none=>none
        |some v6=>match qm ((IntKind.i64.wrap (v6.1.2.2.2.1-(v5.1.length:Int))),())with
         |none=>none
         |some v7=>bd (v5.1.length+v7.1.length) (some ((v5.1++v7.1),(0:Int),())):=rfl
 rw[e0,hc]
 by_cases h:jL m st f=0
 ·obtain⟨h1,h2,h3⟩:=Sq h
  obtain⟨r,hr,hr2⟩:=vo h1
  obtain⟨D,hD,d1,d2⟩:=WZ r hr2 h1 h2 h3
  have hf:=(yI h3).1
  obtain⟨s1,_,s2⟩:=E9 (st:=st) hf hr2
  have k0:(jL m st f != 0)=false:=by rw[h];rfl
  have a1:qm ((8:Int),())=some (List.replicate 8 (1:Int),()):=F7 8 (by omega)
  have a2:DZ (f,m.1,st,())=some (cf f r st,()):=by rw[hr];exact ab8 f r st hf hr2 (wG h2)
  have a3:=agV (cf f r st) (by omega)
  have hll:=vp (cf f r st)
  have a4:=adM (List.replicate 8 (1:Int)) (gK (cf f r st)) (by rw[List.length_replicate];omega)
  obtain⟨_,a5,_⟩:=fL m st h1 h2
  have hlen:(List.replicate 8 (1:Int)++gK (cf f r st)).length=19+10*(cf f r st).length:=by rw[List.length_append,List.length_replicate,hll];omega
  have hw:IntKind.i64.wrap ((cp m st).2.2.2.1-(((List.replicate 8 (1:Int)++gK (cf f r st)).length:Nat):Int))=((D-(19+10*(cf f r st).length):Nat):Int):=by
   rw[hlen,hD,wrap_i64]<;>omega
  have a6:=F7 (D-(19+10*(cf f r st).length)) (by omega)
  rw[if_pos h]
  simp only[k0,a1,a2,a3,a4,a5]
  have hw':IntKind.i64.wrap ((cp m st).2.2.2.1-((List.replicate 8 (1:Int)++gK (cf f r st)).length:Int))=((D-(19+10*(cf f r st).length):Nat):Int):=hw
  rw[hw']
  simp only[a6]
  rw[aU (by rw[hlen,List.length_replicate];omega)]
  unfold d5
  rw[hD,hr,Int.toNat_natCast,Int.toNat_natCast]
 ·have k0:(jL m st f != 0)=true:=by simpa using h
  rw[if_neg h]
  simp only[k0]
theorem Yl(m:aA.T)(st:ao.T)(f:bp.T)(hz:ex m)(h:jL m st f=0):uh (m,st,f,())=some (d5 m st f,()):=by
 obtain⟨h1,h2,h3⟩:=Sq h
 obtain⟨r,hr,hr2⟩:=vo h1
 obtain⟨D,hD,d1,d2⟩:=WZ r hr2 h1 h2 h3
 have hf:=(yI h3).1
 obtain⟨s1,_,s2⟩:=E9 (st:=st) hf hr2
 have a1:fI ((8:Int),(1:Int),())=some (List.replicate 8 (1:Int),()):=yU 8 1 (by omega)
 have a2:sW (f,m.1,st,())=some (cf f r st,()):=by rw[hr];exact ab9 f r st hf hr2 (wG h2)
 have a3:=agW (cf f r st) (by omega)
 have hll:=vp (cf f r st)
 obtain⟨a5,_,_⟩:=fL m st h1 h2
 have hlen:(List.replicate 8 (1:Int)++gK (cf f r st)).length=19+10*(cf f r st).length:=by rw[List.length_append,List.length_replicate,hll];omega
 have hw:IntKind.i64.wrap ((cp m st).2.2.2.1-(((List.replicate 8 (1:Int)++gK (cf f r st)).length:Nat):Int))=((D-(19+10*(cf f r st).length):Nat):Int):=by
  rw[hlen,hD,wrap_i64]<;>omega
 have a6:=yU (D-(19+10*(cf f r st).length)) 1 (by omega)
 have e0:uh (m,st,f,())=be (
  match fI ((8:Int),(1:Int),())with
  |none=>none
  |some v1=>match sW (f,m.1,st,())with
   |none=>none
   |some v2=>match uf (v2.1,(8:Int),())with
    |none=>none
    |some v3=>bd (v1.1.length+v3.1.length) (
     match dJ (m,st,())with
     |none=>none
     |some v4=>match fI ((IntKind.i64.wrap (v4.1.2.2.2.1-((v1.1++v3.1).length:Int))),(1:Int),())with
      |none=>none
      |some v5=>bd ((v1.1++v3.1).length+v5.1.length) (some (((v1.1++v3.1)++v5.1),())))):=rfl
 rw[e0]
 simp only[a1,a2,a3,a5]
 have hw':IntKind.i64.wrap ((cp m st).2.2.2.1-((List.replicate 8 (1:Int)++gK (cf f r st)).length:Int))=((D-(19+10*(cf f r st).length):Nat):Int):=hw
 rw[hw',aU (by rw[List.length_replicate,hll];omega)]
 simp only[a6]
 rw[aU (by rw[hlen,List.length_replicate];omega)]
 unfold d5
 rw[hD,hr,Int.toNat_natCast,Int.toNat_natCast]
 exact iA _
theorem Zb(m:aA.T)(st:ao.T)(f:bp.T)(hz:ex m)(hl:f.2.2.2.1.length≤1099511627776):kp (m,st,f,())=some (if jL m st f=0 then(cj (d5 m st f),(0:Int),())else([],jL m st f,())):=by
 have hc:=Yk m st f hz hl
 have e0:kp (m,st,f,())=match rn (m,st,f,())with
  |none=>none
  |some v1=>match(v1.2.1 != (0:Int))with
   |true=>some ([],v1.2.1,())
   |false=>match lh (v1.1,())with
    |none=>none
    |some v2=>some v2:=rfl
 rw[e0,hc]
 by_cases h:jL m st f=0
 ·obtain⟨c1,c2⟩:=N4 h
  have hn:=acb (d5 m st f) c2 (by omega)
  simp only[if_pos h,hn]
  rfl
 ·have k0:(jL m st f != 0)=true:=by simpa using h
  simp only[if_neg h,k0]
end Go.Proofs.YtnambbcafhnhpaaGreatDoor
namespace Go.Proofs.YtnambbcafhnhpaaGreatDoor
open Go.RowKit
set_option linter.unusedVariables false
set_option linter.unusedSimpArgs false
def C2(k:Int):Bool:=(k != 1)&&(k != 5)
def F8(k:Int):Bool:=(k==4)||(k==6)
def gz(f:bk.T):Bool:=bf f.1 1 6&&(bf f.2.1 0 8192&&((if C2 f.1 then bf f.2.2.1 1 8192 else f.2.2.1==(0:Int))&&(if F8 f.1 then bf f.2.2.2.1 0 1 else f.2.2.2.1==(0:Int))))
theorem adN(x):vz x=some (C2 x.1,()):=by
 unfold vz C2
 rcases Bool.eq_false_or_eq_true (x.1 != (1:Int))with h|h<;>simp only[h]<;>rfl
theorem adO(x):tX x=some (F8 x.1,()):=by
 unfold tX F8
 rcases Bool.eq_false_or_eq_true (x.1==(4:Int))with h|h<;>simp only[h]<;>rfl
theorem adP(x):sR x=some (gz x.1,()):=by
 unfold sR gz
 simp only[oV,adN,adO]
 rcases Bool.eq_false_or_eq_true (bf x.1.1 1 6)with h1|h1<;>rcases Bool.eq_false_or_eq_true (bf x.1.2.1 0 8192)with h2|h2<;>rcases Bool.eq_false_or_eq_true (C2 x.1.1)with h3|h3<;>rcases Bool.eq_false_or_eq_true (F8 x.1.1)with h4|h4<;>rcases Bool.eq_false_or_eq_true (bf x.1.2.2.1 1 8192)with h5|h5<;>rcases Bool.eq_false_or_eq_true (x.1.2.2.1==(0:Int))with h6|h6<;>simp only[h1,h2,h3,h4,h5,h6]<;>rfl
theorem adQ(k:Int)(h:bf k 1 6=true):oJ (k,())=some (C2 k,F8 k,()):=by
 have:=bl.1 h
 have hk:k=1∨k=2∨k=3∨k=4∨k=5∨k=6:=by omega
 rcases hk with rfl|rfl|rfl|rfl|rfl|rfl<;>rfl
theorem W0(x):pt x=some (gz x.1,()):=by
 have hz:(bf x.1.2.2.2.1 0 1&&(x.1.2.2.2.1==(0:Int)))=(x.1.2.2.2.1==(0:Int)):=by
  rcases Bool.eq_false_or_eq_true (x.1.2.2.2.1==(0:Int))with h|h
  ·have h0:x.1.2.2.2.1=0:=by simpa using h
   rw[h0];rfl
  ·rw[h,Bool.and_false]
 unfold pt gz
 simp only[lG]
 rcases Bool.eq_false_or_eq_true (bf x.1.1 1 6)with h1|h1
 ·have hf:=adQ x.1.1 h1
  simp only[h1,hf]
  rcases Bool.eq_false_or_eq_true (bf x.1.2.1 0 8192)with h2|h2<;>rcases Bool.eq_false_or_eq_true (C2 x.1.1)with h3|h3<;>rcases Bool.eq_false_or_eq_true (F8 x.1.1)with h4|h4<;>rcases Bool.eq_false_or_eq_true (bf x.1.2.2.1 1 8192)with h5|h5<;>rcases Bool.eq_false_or_eq_true (x.1.2.2.1==(0:Int))with h6|h6<;>rcases Bool.eq_false_or_eq_true (bf x.1.2.2.2.1 0 1)with h7|h7<;>rcases Bool.eq_false_or_eq_true (x.1.2.2.2.1==(0:Int))with h8|h8<;>simp only[h7,h8,Bool.false_and,Bool.true_and,reduceCtorEq]at hz<;>simp only[h2,h3,h4,h5,h6,h7,h8,bne]<;>rfl
 ·simp only[h1]
  rfl
def eR(l:List bk.T):Bool:=decide ((l.length:Int)≤30)&&l.all gz
theorem Tg(l:List bk.T)(hl:l.length≤1099511627776):uc (l,())=some (eR l,()):=by
 have e:=l6 (B:=i7) l (fun i=>(l,(i:Int),())) gz (.inl (l,())) (.inr (false,())) (by simp only[i7,bQ]) (fun i h=>by
  have hf:pt (l[i],())=some (gz l[i],()):=W0 (l[i],())
  simp only[i7,bH h,a7 h hl,aJ h,ac,hf]
  cases gz l[i]<;>simp)
 have e:ak i7 (l,(0:Int),())=_:=e
 unfold uc eR
 simp only[e]
 cases l.all gz<;>simp
theorem Th(l:List bk.T)(hl:l.length≤1099511627776):tY (l,())=some (eR l,()):=by
 have hc:=Se l hl pG (fun f=> !gz f) (fun i h=>by
  have hf:sR (l[i],())=some (gz l[i],()):=adP (l[i],())
  have e0:pG (l[i],())=match sR (l[i],())with
   |none=>none
   |some v1=>some ((!v1.1),()):=rfl
  rw[e0,hf])
 have e0:tY (l,())=match(decide ((l.length:Int)≤(30:Int)))with
  |true=>match e7 (l,pG,())with
   |none=>none
   |some v1=>some ((!v1.1),())
  |false=>some (false,()):=rfl
 rw[e0,hc]
 unfold eR
 rw[EY]
 cases decide ((l.length:Int)≤30)
 ·rfl
 ·simp
def chg(g:Int→Int):Nat→Nat→List Int→List Int
 |0,_,l=>l
 |k+1,i,l=>chg g k (i+1) (l.set i (g (l.getD i 0)))
theorem s7(g:Int→Int):∀(k i:Nat) (l:List Int),(chg g k i l).length=l.length
 |0,_,_=>rfl
 |k+1,i,l=>by rw[chg,s7 g k,List.length_set]
theorem Ti(by_:Int×Unit→Option (Int×Unit))(g:Int→Int)(hg:∀v,by_ (v,())=some (g v,()))(to:Int):∀(k i:Nat) (l:List Int),l.length≤1000000→((i+k:Nat):Int)=(if(l.length:Int)<to then(l.length:Int)else to)→ak jI (l,to,by_,(i:Int),())=some (.inl (chg g k i l,()))
 |0,i,l,hl,h=>by
  rw[aw]
  have hd:decide ((i:Int)<(if(l.length:Int)<to then(l.length:Int)else to))=false:=decide_eq_false (by omega)
  simp only[jI,hd]
  rfl
 |k+1,i,l,hl,h=>by
  have hlt:i<l.length:=by split at h<;>omega
  rw[aw]
  have hd:decide ((i:Int)<(if(l.length:Int)<to then(l.length:Int)else to))=true:=decide_eq_true (by omega)
  have hget:l[i]? =some l[i]:=List.getElem?_eq_getElem hlt
  simp only[jI,hd,aJ hlt,ac,Int.toNat_natCast,hget,hg,a7 hlt (show l.length≤1099511627776 by omega)]
  have ih:=Ti by_ g hg to k (i+1) (l.set i (g l[i])) (by rw[List.length_set];exact hl) (by rw[List.length_set];omega)
  rw[ih,chg,List.getD_eq_getElem?_getD,hget]
  rfl
def lq(g:Int→Int)(l:List Int)(a b:Nat):List Int:=chg g (min b l.length-min a l.length) (min a l.length) l
theorem BC(by_:Int×Unit→Option (Int×Unit))(g:Int→Int)(hg:∀v,by_ (v,())=some (g v,()))(l:List Int)(hl:l.length≤1000000)(a b:Nat)(ha:a≤1000000):sh (l,(a:Int),(b:Int),by_,())=some (lq g l a b,()):=by
 have key:ak jI (l,(b:Int),by_,(a:Int),())=some (.inl (lq g l a b,())):=by
  by_cases h:a≤min b l.length
  ·have:=Ti by_ g hg (b:Int) (min b l.length-a) a l hl (by split<;>omega)
   rw[this]
   unfold lq
   rw[Nat.min_eq_left (show a≤l.length by omega)]
  ·rw[aw]
   have hd:decide ((a:Int)<(if(l.length:Int)<(b:Int)then(l.length:Int)else(b:Int)))=false:=decide_eq_false (by split<;>omega)
   simp only[jI,hd]
   unfold lq
   rw[show min b l.length-min a l.length=0 by omega]
   rfl
 unfold sh
 simp only[key]
end Go.Proofs.YtnambbcafhnhpaaGreatDoor
namespace Go.Proofs.YtnambbcafhnhpaaGreatDoor
open Go.RowKit
set_option linter.unusedVariables false
set_option linter.unusedSimpArgs false
def l8(v:Int):Int:=IntKind.i64.wrap (1-v)
def gF(f:bk.T):Int→Int:=if(f.1==(5:Int))=true then fun _=>1 else if(f.1==(6:Int))=true then fun _=>f.2.2.2.1 else l8
theorem Sr(n k:Nat)(e:Int)(he:e=(k:Int))(hk:k≤n):aZ n none (some (.dat (.int .i64) e))=some (0,k):=by
 subst he
 simp only[aZ,lQ,kT,yf]
 rw[if_pos (by omega)]
 simp
theorem W2(n k:Nat)(e:Int)(he:e=(k:Int))(hk:k≤n):aZ n (some (.dat (.int .i64) e)) none=some (k,n):=by
 subst he
 simp only[aZ,lQ,kT,yf]
 rw[if_pos (by omega)]
 simp
theorem acf(f:bk.T)(to:Nat):∀(k i:Nat) (l:List Int),l.length≤1000000→i+k=to→to≤l.length→ak dW (f,(to:Int),l,(i:Int),())=some (.inl (chg (gF f) k i l,()))
 |0,i,l,hl,h,ht=>by
  have h:i=to:=by omega
  subst h
  rw[aw]
  simp only[dW,bQ]
  rfl
 |k+1,i,l,hl,h,ht=>by
  have hlt:i<l.length:=by omega
  have hlt2:i<to:=by omega
  have hget:l[i]? =some l[i]:=List.getElem?_eq_getElem hlt
  have hg:l.getD i 0=l[i]:=by rw[List.getD_eq_getElem?_getD,hget];rfl
  have ih:=acf f to k (i+1) (l.set i (gF f l[i])) (by rw[List.length_set];exact hl) (by omega) (by rw[List.length_set];exact ht)
  rw[aw,chg,hg]
  unfold gF at ih ⊢
  rcases Bool.eq_false_or_eq_true (f.1==(5:Int))with h5|h5
  ·rw[h5]at ih ⊢
   simp only[if_true]at ih ⊢
   simp only[dW,bH hlt2,h5,aJ hlt,ac,Int.toNat_natCast,hget,a7 hlt (show l.length≤1099511627776 by omega)]
   exact ih
  ·rcases Bool.eq_false_or_eq_true (f.1==(6:Int))with h6|h6
   ·rw[h5,h6]at ih ⊢
    simp only[if_true,Bool.false_eq_true,if_false]at ih ⊢
    simp only[dW,bH hlt2,h5,h6,aJ hlt,ac,Int.toNat_natCast,hget,a7 hlt (show l.length≤1099511627776 by omega)]
    exact ih
   ·rw[h5,h6]at ih ⊢
    simp only[Bool.false_eq_true,if_false]at ih ⊢
    simp only[dW,bH hlt2,h5,h6,aJ hlt,ac,Int.toNat_natCast,hget,a7 hlt (show l.length≤1099511627776 by omega)]
    exact ih
theorem KW(l:List Int)(hl:l.length≤1000000)(f:bk.T)(a b:Nat)(hab:a≤b)(hb:b≤l.length):iq (l,f,(a:Int),(b:Int),())=some (.inr (chg (gF f) (b-a) a l,())):=by
 have ho:=E6 l hl
 have e:=acf f b (b-a) a l hl (by omega) hb
 have e':ak dW ((f.1,f.2.1,f.2.2.1,f.2.2.2.1,()),(b:Int),l,(a:Int),())=_:=e
 unfold iq
 simp only[ho]
 first|simp only[e]|simp only[e']
noncomputable def ez(l:List Int)(f:bk.T):List Int:=
 if f.1=1 then lq l8 l f.2.1.toNat (f.2.1.toNat+1)
 else if f.1=2 then lq l8 l f.2.1.toNat (f.2.1.toNat+f.2.2.1.toNat)
 else if f.1=3 then l.take (min f.2.1.toNat l.length)++l.drop (min (f.2.1.toNat+f.2.2.1.toNat) l.length)
 else if f.1=4 then(if f.2.1.toNat≤l.length then l.take f.2.1.toNat++List.replicate f.2.2.1.toNat f.2.2.2.1++l.drop f.2.1.toNat else l).take 8192
 else if f.1=5 then lq (fun _=>1) l f.2.1.toNat l.length
 else lq (fun _=>f.2.2.2.1) l f.2.1.toNat (f.2.1.toNat+f.2.2.1.toNat)
theorem C3 {k a c v:Int}(h:gz (k,a,c,v,())=true):(k=1∨k=2∨k=3∨k=4∨k=5∨k=6)∧(∃n:Nat,a=(n:Int)∧n≤8192)∧(∃n:Nat,c=(n:Int)∧n≤8192∧((k=2∨k=3∨k=4∨k=6)→1≤n)):=by
 unfold gz at h
 simp only[Bool.and_eq_true]at h
 obtain⟨h1,h2,h3,_⟩:=h
 have h1:=bl.1 h1
 have h2:=bl.1 h2
 refine⟨by omega,⟨a.toNat,by omega,by omega⟩, ?_⟩
 by_cases hk:k=1∨k=5
 ·have:C2 k=false:=by rcases hk with rfl|rfl<;>rfl
  rw[this]at h3
  have h3:c=0:=by simpa using h3
  exact⟨0,by omega,by omega,fun h=>by omega⟩
 ·have:C2 k=true:=by
   unfold C2
   simp only[Bool.and_eq_true,bne_iff_ne]
   omega
  rw[this]at h3
  have h3:=bl.1 h3
  exact⟨c.toNat,by omega,by omega,fun _=>by omega⟩
theorem agZ(l:List Int)(a c:Nat)(v:Int):ez l ((4:Int),(a:Int),(c:Int),v,())=(if a≤l.length then l.take a++List.replicate c v++l.drop a else l).take 8192:=by
 unfold ez
 rw[if_neg (show ¬(4:Int)=1 by decide),if_neg (show ¬(4:Int)=2 by decide),if_neg (show ¬(4:Int)=3 by decide),if_pos (show(4:Int)=4 from rfl)]
 simp only[Int.toNat_natCast]
theorem aaC(l:List Int)(hl:l.length≤8192)(f:bk.T)(hf:gz f=true):pN (l,f,())=some (ez l f,()):=by
 obtain⟨(k:Int),(a:Int),(c:Int),(v:Int),⟨⟩⟩:=f
 obtain⟨hk,⟨a,rfl,ha⟩,⟨c,rfl,hc,hc1⟩⟩:=C3 hf
 have hcl:=F1 l (by omega)
 have w1:IntKind.i64.wrap ((a:Int)+1)=((a+1:Nat):Int):=by rw[wrap_i64]<;>omega
 have w2:IntKind.i64.wrap ((a:Int)+(c:Int))=((a+c:Nat):Int):=by rw[wrap_i64]<;>omega
 have q1:∀z,kP (z,())=some (l8 z,()):=fun z=>rfl
 have q2:∀z,qp (z,())=some ((fun _=>(1:Int)) z,()):=fun z=>rfl
 have q3:∀z,(fun z:Int×Unit=>qq (z.1,(k,(a:Int),(c:Int),v,()),())) (z,())=some ((fun _=>v) z,()):=fun z=>rfl
 have c1:=BC kP l8 q1 l (by omega) a (a+1) (by omega)
 have c2:=BC kP l8 q1 l (by omega) a (a+c) (by omega)
 have c5:=BC qp (fun _=>1) q2 l (by omega) a l.length (by omega)
 have c6:=BC (fun z=>qq (z.1,(k,(a:Int),(c:Int),v,()),())) (fun _=>v) q3 l (by omega) a (a+c) (by omega)
 have m1:(if(a:Int)<(l.length:Int)then(a:Int)else(l.length:Int))=((min a l.length:Nat):Int):=by split<;>omega
 have m2:(if((a+c:Nat):Int)<(l.length:Int)then((a+c:Nat):Int)else(l.length:Int))=((min (a+c) l.length:Nat):Int):=by split<;>omega
 have cut:∀z:List Int,aZ z.length none (some (.dat (.int .i64) (if(z.length:Int)<(8192:Int)then(z.length:Int)else(8192:Int))))=some (0,min z.length 8192):=fun z=>Sr _ _ _ (by split<;>omega) (Nat.min_le_left _ _)
 have cutT:∀z:List Int,List.drop 0 (List.take (min z.length 8192) z)=z.take 8192:=fun z=>by
  rw[List.drop_zero]
  by_cases hz:z.length≤8192
  ·rw[Nat.min_eq_left hz,List.take_of_length_le (Nat.le_refl _),List.take_of_length_le hz]
  ·rw[Nat.min_eq_right (by omega)]
 unfold pN
 simp only[hcl]
 rcases hk with rfl|rfl|rfl|rfl|rfl|rfl
 ·unfold ez
  simp only[show((1:Int)==1)=true from rfl,w1,c1,if_true,Int.toNat_natCast]
 ·unfold ez
  simp only[show((2:Int)==1)=false from rfl,show((2:Int)==2)=true from rfl,w2,c2,Int.toNat_natCast]
  rfl
 ·unfold ez
  have hd:lv (l,((min a l.length:Nat):Int),((min (a+c) l.length:Nat):Int),())=some (l.take (min a l.length)++l.drop (min (a+c) l.length),()):=by
   unfold lv Vj
   simp only[Int.toNat_natCast]
   rw[if_pos (by omega)]
   rfl
  simp only[show((3:Int)==1)=false from rfl,show((3:Int)==2)=false from rfl,show((3:Int)==3)=true from rfl,w2,m1,m2,hd,Int.toNat_natCast]
  rfl
 ·rw[agZ]
  simp only[show((4:Int)==1)=false from rfl,show((4:Int)==2)=false from rfl,show((4:Int)==3)=false from rfl,show((4:Int)==4)=true from rfl,Int.toNat_natCast]
  by_cases hal:a≤l.length
  ·have hr:=aey [] v c (by simp;omega)
   rw[List.nil_append]at hr
   have hi:lw (l,(a:Int),List.replicate c v,())=some (l.take a++List.replicate c v++l.drop a,()):=by
    unfold lw Vk
    simp only[Int.toNat_natCast,List.length_replicate]
    have:=hc1 (by omega)
    rw[if_pos (by omega)]
    rfl
   have hd:decide ((a:Int)≤(l.length:Int))=true:=decide_eq_true (by omega)
   rw[if_pos hal]
   simp only[hd,hr,hi]
   rw[cut]
   exact congrArg (fun z:List Int=>some (z,())) (cutT _)
  ·have hd:decide ((a:Int)≤(l.length:Int))=false:=decide_eq_false (by omega)
   rw[if_neg hal]
   simp only[hd]
   rw[cut]
   exact congrArg (fun z:List Int=>some (z,())) (cutT _)
 ·unfold ez
  simp only[show((5:Int)==1)=false from rfl,show((5:Int)==2)=false from rfl,show((5:Int)==3)=false from rfl,show((5:Int)==4)=false from rfl,show((5:Int)==5)=true from rfl,c5,Int.toNat_natCast]
  rfl
 ·unfold ez
  simp only[show((6:Int)==1)=false from rfl,show((6:Int)==2)=false from rfl,show((6:Int)==3)=false from rfl,show((6:Int)==4)=false from rfl,show((6:Int)==5)=false from rfl,show((6:Int)==6)=true from rfl,w2,Int.toNat_natCast]
  simp only[c6]
  rfl
theorem aaD(l:List Int)(hl:l.length≤8192)(f:bk.T)(hf:gz f=true):qr (l,f,())=some (ez l f,()):=by
 obtain⟨(k:Int),(a:Int),(c:Int),(v:Int),⟨⟩⟩:=f
 obtain⟨hk,⟨a,rfl,ha⟩,⟨c,rfl,hc,hc1⟩⟩:=C3 hf
 have w1:IntKind.i64.wrap ((a:Int)+1)=((a+1:Nat):Int):=by rw[wrap_i64]<;>omega
 have w2:IntKind.i64.wrap ((a:Int)+(c:Int))=((a+c:Nat):Int):=by rw[wrap_i64]<;>omega
 have m1:(if(a:Int)<(l.length:Int)then(a:Int)else(l.length:Int))=((min a l.length:Nat):Int):=by split<;>omega
 have m2:(if((a+c:Nat):Int)<(l.length:Int)then((a+c:Nat):Int)else(l.length:Int))=((min (a+c) l.length:Nat):Int):=by split<;>omega
 have m3:(if((a+1:Nat):Int)<(l.length:Int)then((a+1:Nat):Int)else(l.length:Int))=((min (a+1) l.length:Nat):Int):=by split<;>omega
 have cut:∀z:List Int,aZ z.length none (some (.dat (.int .i64) (if(8192:Int)<(z.length:Int)then(8192:Int)else(z.length:Int))))=some (0,min z.length 8192):=fun z=>Sr _ _ _ (by split<;>omega) (Nat.min_le_left _ _)
 have cutT:∀z:List Int,List.drop 0 (List.take (min z.length 8192) z)=z.take 8192:=fun z=>by
  rw[List.drop_zero]
  by_cases hz:z.length≤8192
  ·rw[Nat.min_eq_left hz,List.take_of_length_le (Nat.le_refl _),List.take_of_length_le hz]
  ·rw[Nat.min_eq_right (by omega)]
 have b1:aZ l.length none (some (.dat (.int .i64) ((min a l.length:Nat):Int)))=some (0,min a l.length):=Sr _ _ _ rfl (Nat.min_le_right _ _)
 have b2:aZ l.length (some (.dat (.int .i64) ((min (a+c) l.length:Nat):Int))) none=some (min (a+c) l.length,l.length):=W2 _ _ _ rfl (Nat.min_le_right _ _)
 have b3:aZ l.length (some (.dat (.int .i64) ((min a l.length:Nat):Int))) none=some (min a l.length,l.length):=W2 _ _ _ rfl (Nat.min_le_right _ _)
 have o0:=E6 l (by omega)
 have o1:=E6 (l.take (min a l.length)) (by rw[List.length_take];omega)
 have key:nj (l,(k,(a:Int),(c:Int),v,()),(l.length:Int),((min a l.length:Nat):Int),((min (a+c) l.length:Nat):Int),())=some (.inr (ez l (k,(a:Int),(c:Int),v,()),())):=by
  unfold nj ez
  rcases hk with rfl|rfl|rfl|rfl|rfl|rfl
  ·have h:=KW l (by omega) ((1:Int),(a:Int),(c:Int),v,()) (min a l.length) (min (a+1) l.length) (by omega) (by omega)
   simp only[show((1:Int)==1)=true from rfl,w1,m3,h,if_true,Int.toNat_natCast]
   rfl
  ·have h:=KW l (by omega) ((2:Int),(a:Int),(c:Int),v,()) (min a l.length) (min (a+c) l.length) (by omega) (by omega)
   simp only[show((2:Int)==1)=false from rfl,show((2:Int)==5)=false from rfl,show((2:Int)==3)=false from rfl,show((2:Int)==4)=false from rfl,h,Int.toNat_natCast]
   rfl
  ·simp only[show((3:Int)==1)=false from rfl,show((3:Int)==5)=false from rfl,show((3:Int)==3)=true from rfl,b1,b2,ac,List.drop_zero,List.take_length,o1,Int.toNat_natCast]
   rw[aU (by rw[List.length_take,List.length_drop];omega)]
   rfl
  ·simp only[show((4:Int)==1)=false from rfl,show((4:Int)==5)=false from rfl,show((4:Int)==3)=false from rfl,show((4:Int)==4)=true from rfl,Int.toNat_natCast]
   by_cases hal:a≤l.length
   ·have hd:decide ((a:Int)>(l.length:Int))=false:=decide_eq_false (by omega)
    have hr:=yU c v (by omega)
    simp only[hd,b1,b3,ac,List.drop_zero,List.take_length,o1,hr]
    rw[aU (by rw[List.length_take,List.length_replicate];omega),aU (by rw[List.length_append,List.length_take,List.length_replicate,List.length_drop];omega)]
    simp only[cut,cutT]
    rw[if_pos hal,Nat.min_eq_left hal]
    rfl
   ·have hd:decide ((a:Int)>(l.length:Int))=true:=decide_eq_true (by omega)
    simp only[hd,o0,if_neg hal]
    rw[List.take_of_length_le hl]
    rfl
  ·have h:=KW l (by omega) ((5:Int),(a:Int),(c:Int),v,()) (min a l.length) l.length (by omega) (Nat.le_refl _)
   simp only[show((5:Int)==1)=false from rfl,show((5:Int)==5)=true from rfl,h,Int.toNat_natCast]
   show _=some (Sum.inr (chg _ (min l.length l.length-min a l.length) (min a l.length) l,()))
   rw[Nat.min_self]
   rfl
  ·have h:=KW l (by omega) ((6:Int),(a:Int),(c:Int),v,()) (min a l.length) (min (a+c) l.length) (by omega) (by omega)
   simp only[show((6:Int)==1)=false from rfl,show((6:Int)==5)=false from rfl,show((6:Int)==3)=false from rfl,show((6:Int)==4)=false from rfl,h,Int.toNat_natCast]
   rfl
 unfold qr
 simp only[w2,m1,m2,key]
 exact iA _
theorem Ko(l:List Int)(hl:l.length≤8192)(f:bk.T):(ez l f).length≤8192:=by
 unfold ez lq
 split
 ·rw[s7];exact hl
 ·split
  ·rw[s7];exact hl
  ·split
   ·rw[List.length_append,List.length_take,List.length_drop]
    omega
   ·split
    ·rw[List.length_take];exact Nat.min_le_left _ _
    ·split
     ·rw[s7];exact hl
     ·rw[s7];exact hl
noncomputable def gc(l:List Int)(s:List bk.T):List Int:=s.foldl ez l
theorem Kq {s:List bk.T}(h:eR s=true):s.length≤30∧∀f ∈ s,gz f=true:=by
 unfold eR at h
 simp only[Bool.and_eq_true,decide_eq_true_eq,List.all_eq_true]at h
 exact⟨by omega,h.2⟩
theorem W4(l:List Int)(hl:l.length≤8192)(s:List bk.T)(hs:eR s=true):iH (l,s,())=some (gc l s,()):=by
 obtain⟨h1,h2⟩:=Kq hs
 have hcl:=F1 l (by omega)
 have e:=pZ (B:=fX) s (fun z i=>(z,s,(s.length:Int),(i:Int),())) ez (fun z=>.inl (z,())) (fun z=>z.length≤8192) (fun z f _ hz=>Ko z hz f) (fun z _=>by simp only[fX,bQ]) (fun z i h hz=>by
  have hf:=aaC z hz s[i] (h2 _ (List.getElem_mem h))
  have hf':pN (z,(s[i].1,s[i].2.1,s[i].2.2.1,s[i].2.2.2.1,()),())=_:=hf
  simp only[fX,bH h,a7 h (show s.length≤1099511627776 by omega),aJ h,ac]
  first|simp only[hf]|simp only[hf']) s.length 0 l (by omega) hl
 have e:ak fX (l,s,(s.length:Int),(0:Int),())=_:=e
 unfold iH gc
 simp only[hcl,e,List.drop_zero]
theorem W5(l:List Int)(hl:l.length≤8192)(s:List bk.T)(hs:eR s=true):kC (l,s,())=some (gc l s,()):=by
 obtain⟨h1,h2⟩:=Kq hs
 have hcl:=E6 l (by omega)
 have e:=pZ (B:=jc) s (fun z i=>(s,z,(i:Int),())) ez (fun z=>.inl (z,())) (fun z=>z.length≤8192) (fun z f _ hz=>Ko z hz f) (fun z _=>by simp only[jc,bQ]) (fun z i h hz=>by
  have hf:=aaD z hz s[i] (h2 _ (List.getElem_mem h))
  have hf':qr (z,(s[i].1,s[i].2.1,s[i].2.2.1,s[i].2.2.2.1,()),())=_:=hf
  simp only[jc,bH h,a7 h (show s.length≤1099511627776 by omega),aJ h,ac]
  first|simp only[hf]|simp only[hf']) s.length 0 l (by omega) hl
 have e:ak jc (s,l,(0:Int),())=_:=e
 unfold kC gc
 simp only[hcl,e,List.drop_zero]
end Go.Proofs.YtnambbcafhnhpaaGreatDoor

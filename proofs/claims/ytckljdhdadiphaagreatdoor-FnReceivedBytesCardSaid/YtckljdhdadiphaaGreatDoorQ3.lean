import Derived.Test.YtckljdhdadiphaaGreatDoorQ2
namespace Go.Proofs.YtckljdhdadiphaaGreatDoor
open Go.RowKit
set_option linter.unusedVariables false
set_option linter.unusedSimpArgs false
theorem HO {T R X O:Type}{B:X→Option (X ⊕ O)}(l:List T)(e:List R→Nat→X)(g:T→List R)(N c:Nat)(hg:∀v ∈ l,(g v).length≤c)(fin:List R→O)(hend:∀s,B (e s l.length)=some (.inr (fin s)))
  (hstep:∀s i (h:i<l.length),s.length≤N+i*c→B (e s i)=some (.inl (e (s++g l[i]) (i+1)))) (s:List R) (hs:s.length≤N):ac B (e s 0)=some (fin (s++l.flatMap g)):=by
 have key:∀(k i:Nat) (s:List R),i+k=l.length→s.length≤N+i*c→ac B (e s i)=some (fin (s++(l.drop i).flatMap g)):=by
  intro k
  induction k with
  |zero=>
   intro i s hi hs
   have:i=l.length:=by omega
   subst this
   rw[am,hend]
   simp
  |succ k ih=>
   intro i s hi hs
   have h1:i<l.length:=by omega
   rw[am,hstep s i h1 hs]
   simp only
   have hg1:=hg l[i] (List.getElem_mem h1)
   rw[ih (i+1) _ (by omega) (by rw[List.length_append,Nat.add_mul];omega),List.drop_eq_getElem_cons h1]
   simp only[List.flatMap_cons,List.append_assoc]
 have:=key l.length 0 s (by omega) (by omega)
 simpa using this
theorem OY:∀(l:List Int) (n:Int) (M:Nat),(∀b ∈ l,b=0∨b=1)→0≤n→n<M→M*2^l.length≤4611686018427387904→0≤l.foldl (fun n b=>IntKind.i64.wrap (IntKind.i64.wrap (2*n)+b)) n∧l.foldl (fun n b=>IntKind.i64.wrap (IntKind.i64.wrap (2*n)+b)) n<((M*2^l.length:Nat):Int)
 | [],n,M,_,h0,h1,_=>by
   show 0≤n∧n<((M*2^0:Nat):Int)
   rw[Nat.pow_zero,Nat.mul_one]
   exact⟨h0,h1⟩
 |b::l,n,M,hb,h0,h1,hk=>by
  have e:M*2^(l.length+1)=(2*M)*2^l.length:=by rw[Nat.pow_succ,Nat.mul_comm (2^l.length) 2,←Nat.mul_assoc,Nat.mul_comm M 2]
  have hk:M*2^(l.length+1)≤4611686018427387904:=hk
  rw[e]at hk
  have hM:2*M≤(2*M)*2^l.length:=Nat.le_mul_of_pos_right _ (Nat.two_pow_pos _)
  have hb0:=hb b (by simp)
  have w1:IntKind.i64.wrap (2*n)=2*n:=by rw[wrap_i64]<;>omega
  have w2:IntKind.i64.wrap (2*n+b)=2*n+b:=by rw[wrap_i64]<;>omega
  have ih:=OY l (2*n+b) (2*M) (fun c hc=>hb c (by simp[hc])) (by omega) (by omega) hk
  show 0≤l.foldl _ (IntKind.i64.wrap (IntKind.i64.wrap (2*n)+b))∧l.foldl _ (IntKind.i64.wrap (IntKind.i64.wrap (2*n)+b))<((M*2^(l.length+1):Nat):Int)
  rw[w1,w2,e]
  exact ih
theorem Vm(l:List Int)(h:∀b ∈ l,b=0∨b=1):∀v ∈ sR l,0≤v∧v≤255:=by
 intro v hv
 obtain⟨k,_,rfl⟩:=List.mem_map.1 hv
 have hl:(bK l k).length≤8:=by rw[mU];omega
 have hp:2^(bK l k).length≤2^8:=Nat.pow_le_pow_right (by omega) hl
 have:=OY (bK l k) 0 1 (fun b hb=>h b (List.mem_of_mem_drop (List.mem_of_mem_take hb))) (by omega) (by omega) (by omega)
 unfold ez
 omega
theorem wl {f:aL.T}(h:bp f=true):be f.1 0 3=true∧be f.2.1 0 7=true∧fw f.1 f.2.2.2.1.length=true∧c7 f.2.2.2.1=true∧((f.1 != (0:Int))=true→bl f.2.2.1=true):=by
 unfold bp at h
 simp only[Bool.and_eq_true]at h
 obtain⟨h1,h2,h3,h4,h5⟩:=h
 refine⟨h1,h2,h3,h4,fun hk=> ?_⟩
 have hk0:(f.1==(0:Int))=false:=by simpa using hk
 rw[hk0]at h5
 simp only[Bool.false_eq_true,if_false]at h5
 split at h5
 ·simp only[Bool.and_eq_true]at h5
  exact h5.1
 ·exact h5
theorem C8 {f:aL.T}(h:bp f=true):(∀v ∈ a7 f,0≤v∧v≤255)∧((a7 f).length:Int)=lR f.1 f.2.2.2.1.length∧(a7 f).length≤50:=by
 obtain⟨h1,h2,h3,h4,h5⟩:=wl h
 have hd:=rk h
 have k1:=bg.1 h1
 have k2:=bg.1 h2
 obtain⟨(k:Int),(q:Int),st,(d:List Int),⟨⟩⟩:=f
 simp only at h1 h2 h3 h4 h5 hd k1 k2
 have w1:IntKind.i64.wrap (k*64)=k*64:=by rw[wrap_i64]<;>omega
 have w2:IntKind.i64.wrap (q*8)=q*8:=by rw[wrap_i64]<;>omega
 have w3:IntKind.i64.wrap (k*64+q*8)=k*64+q*8:=by rw[wrap_i64]<;>omega
 have hb:∀v ∈ d,0≤v∧v≤255:=by
  unfold c7 at h4
  simp only[Bool.and_eq_true,List.all_eq_true]at h4
  exact fun v hv=>bg.1 (h4.2 v hv)
 have e:a7 (k,q,st,d,())=([k*64+q*8]++(if k != (0:Int)then sR (jm st)else []))++(if cR k then(d.length:Int)::d else []):=by
  unfold a7
  simp only[w1,w2,w3]
 rw[e]
 refine⟨fun v hv=> ?_, ?_, ?_⟩
 ·simp only[List.mem_append,List.mem_singleton]at hv
  rcases hv with(rfl|hv)|hv
  ·omega
  ·split at hv
   ·rename_i hk
    exact Vm _ (Lg st (h5 hk)) v hv
   ·cases hv
  ·split at hv
   ·rcases List.mem_cons.1 hv with rfl|hv
    ·omega
    ·exact hb v hv
   ·cases hv
 ·unfold lR
  simp only[List.length_append]
  split<;>split<;>simp[fV]<;>omega
 ·simp only[List.length_append]
  split<;>split<;>simp[fV]<;>omega
def aW(f:aL.T)(r:Nat)(st:ak.T):List Int:=a7 f++ [((bc f.1 (a7 f) r st / 65536:Nat):Int),((bc f.1 (a7 f) r st / 256 % 256:Nat):Int),((bc f.1 (a7 f) r st % 256:Nat):Int)]
theorem Ki(f:aL.T)(r:Nat)(st:ak.T)(hf:bp f=true)(hr:r<16777216)(hst:bl st=true):qW (f,(r:Int),st,())=some (aW f r st,()):=by
 obtain⟨h1,_,h2⟩:=C8 hf
 have hb:fq (f,())=some (a7 f,()):=Q9 (f,()) (by have:=rk hf;show f.2.2.2.1.length≤_;omega)
 have hc:=OK f.1 (a7 f) r st (by omega) h1 hr hst
 have ht:=Jq (bc f.1 (a7 f) r st) (pk f.1 (a7 f) r st hr)
 have e0:qW (f,(r:Int),st,())=match fq (f,())with
  |none=>none
  |some v1=>match gK (f.1,v1.1,(r:Int),st,())with
   |none=>none
   |some v2=>match jB (v2.1,())with
    |none=>none
    |some v3=>aD (v1.1.length+v3.1.length) (some ((v1.1++v3.1),())):=rfl
 rw[e0]
 simp only[hb,hc,ht]
 rw[aE (by simp;omega)]
 rfl
theorem CG(f:aL.T)(r:Nat)(st:ak.T)(hf:bp f=true)(hr:r<16777216)(hst:bl st=true):gY (f,(r:Int),st,())=some (aW f r st,()):=by
 obtain⟨h1,_,h2⟩:=C8 hf
 have hb:bG (f,())=some (a7 f,()):=Ra (f,()) (by have:=rk hf;show f.2.2.2.1.length≤_;omega)
 have hc:=OL f.1 (a7 f) r st (by omega) h1 hr hst
 have hn:=pk f.1 (a7 f) r st hr
 have ht:=Jq (bc f.1 (a7 f) r st) hn
 generalize hq:bc f.1 (a7 f) r st=q at hc hn ht
 have e1: [(IntKind.i64.wrap (Int.tdiv (q:Int) (65536:Int))),(Int.tmod (IntKind.i64.wrap (Int.tdiv (q:Int) (256:Int))) (256:Int)),(Int.tmod (q:Int) (256:Int))]= [((q / 65536:Nat):Int),((q / 256 % 256:Nat):Int),((q % 256:Nat):Int)]:=by
  have a1:Int.tdiv (q:Int) 65536=((q / 65536:Nat):Int):=rfl
  have a2:Int.tdiv (q:Int) 256=((q / 256:Nat):Int):=rfl
  have a3:Int.tmod (q:Int) 256=((q % 256:Nat):Int):=rfl
  have b1:IntKind.i64.wrap ((q / 65536:Nat):Int)=((q / 65536:Nat):Int):=by rw[wrap_i64]<;>omega
  have b2:IntKind.i64.wrap ((q / 256:Nat):Int)=((q / 256:Nat):Int):=by rw[wrap_i64]<;>omega
  rw[a1,a2,a3,b1,b2]
  rfl
 have e0:gY (f,(r:Int),st,())=match bG (f,())with
  |none=>none
  |some v1=>match i9 (f.1,v1.1,(r:Int),st,())with
   |none=>none
   |some v2=>aD (v1.1.length+ [(IntKind.i64.wrap (Int.tdiv v2.1 (65536:Int))),(Int.tmod (IntKind.i64.wrap (Int.tdiv v2.1 (256:Int))) (256:Int)),(Int.tmod v2.1 (256:Int))].length) (some ((v1.1++ [(IntKind.i64.wrap (Int.tdiv v2.1 (65536:Int))),(Int.tmod (IntKind.i64.wrap (Int.tdiv v2.1 (256:Int))) (256:Int)),(Int.tmod v2.1 (256:Int))]),())):=rfl
 rw[e0]
 simp only[hb,hc,e1]
 rw[aE (by simp;omega)]
 unfold aW
 rw[hq]
theorem p9 {f:aL.T}{r:Nat}{st:ak.T}(hf:bp f=true)(hr:r<16777216):(∀v ∈ aW f r st,0≤v∧v≤255)∧((aW f r st).length:Int)=lR f.1 f.2.2.2.1.length+3∧(aW f r st).length≤53:=by
 obtain⟨h1,h2,h3⟩:=C8 hf
 have hn:=pk f.1 (a7 f) r st hr
 unfold aW
 refine⟨fun v hv=> ?_, ?_, ?_⟩
 ·rcases List.mem_append.1 hv with hv|hv
  ·exact h1 v hv
  ·simp only[List.mem_cons,List.not_mem_nil,or_false]at hv
   rcases hv with rfl|rfl|rfl<;>omega
 ·simp only[List.length_append,List.length_cons,List.length_nil]
  omega
 ·simp only[List.length_append,List.length_cons,List.length_nil]
  omega
def bT(l:List Int):List Int:=(List.replicate 8 (0:Int)++ [1])++l.flatMap (fun b=>[1,0]++aV b 8)++ [0,1]
theorem FL(l:List Int):((List.replicate 8 (0:Int)++ [1])++l.flatMap (fun b=>[1,0]++aV b 8)).length=9+10*l.length:=by
 have:(l.flatMap (fun b=>[1,0]++aV b 8)).length=10*l.length:=by
  induction l with
  |nil=>rfl
  |cons b l ih=>
   rw[List.flatMap_cons,List.length_append,ih]
   simp only[List.length_append,List.length_cons,List.length_nil,cQ]
   omega
 rw[List.length_append,this]
 simp only[List.length_append,List.length_replicate,List.length_cons,List.length_nil]
theorem lC(l:List Int):(bT l).length=11+10*l.length:=by
 unfold bT
 rw[List.length_append,FL]
 simp only[List.length_cons,List.length_nil]
 omega
theorem Jw {l:List Int}(h:∀v ∈ l,0≤v∧v≤255):∀b ∈ bT l,b=0∨b=1:=by
 intro b hb
 unfold bT at hb
 simp only[List.mem_append,List.mem_replicate,List.mem_flatMap,List.mem_cons,List.not_mem_nil,or_false]at hb
 rcases hb with((⟨_,rfl⟩|rfl)|⟨v,hv,(rfl|rfl)|hb⟩)|(rfl|rfl)
 ·exact .inl rfl
 ·exact .inr rfl
 ·exact .inr rfl
 ·exact .inl rfl
 ·obtain⟨h0,h1⟩:=h v hv
  obtain⟨n,rfl⟩:=Int.eq_ofNat_of_zero_le h0
  exact HE n (by omega) 8 b hb
 ·exact .inl rfl
 ·exact .inr rfl
theorem MZ(l:List Int)(hl:l.length≤1000):lm (l,(8:Int),())=some (bT l,()):=by
 have e:=HO (B:=gM) l (fun s i=>(s,l,(l.length:Int),(i:Int),())) (fun b=>[1,0]++aV b 8) 9 10 (fun v _=>by simp[cQ]) (fun s=>.inl (s,())) (fun s=>by simp only[gM,bJ]) (fun s i h hs=>by
  have ha:=nA (s++ [1,0]) l[i] 8 (by omega) (by simp;omega)
  have ha:bH (s++ [1,0],l[i],(8:Int),())=_:=ha
  simp only[gM,bw h,aQ h (show l.length≤1099511627776 by omega),az h,ab]
  rw[aE (by simp;omega)]
  simp only[ha,List.append_assoc]) (List.replicate 8 (0:Int)++ [1]) (by simp)
 have e:ac gM ((List.replicate (8:Int).toNat (0:Int))++ [1],l,(l.length:Int),(0:Int),())=_:=e
 have hlen:=FL l
 unfold lm
 simp only[e]
 rw[if_pos (show(0:Int)≤8∧(8:Int)≤8 from⟨by decide,by decide⟩),aE (by decide),aE (by decide),aE (by rw[hlen];show 9+10*l.length+2≤_;omega)]
 rfl
theorem Vn(l:List Int)(hl:l.length≤1000):ph (l,(8:Int),())=some (bT l,()):=by
 have e:=HO (B:=fT) l (fun s i=>(l,s,(i:Int),())) (fun b=>[1,0]++aV b 8) 9 10 (fun v _=>by simp[cQ]) (fun s=>.inl (s,())) (fun s=>by simp only[fT,bJ]) (fun s i h hs=>by
  have hd:List.drop i (List.take (i+1) l)= [l[i]]:=by
   rw[List.drop_take,Nat.add_sub_cancel_left,List.drop_eq_getElem_cons h]
   rfl
  have hb:=FG [l[i]] (by simp)
  have hb1:cY [l[i]]=aV l[i] 8:=by simp[cY]
  have hbd:aK l.length (some (.dat (.int .i64) ((i:Nat):Int))) (some (.dat (.int .i64) (((i+1:Nat):Int))))=some (i,i+1):=by
   unfold aK
   simp[jO,jr]
   omega
  simp only[fT,bw h,aQ h (show l.length≤1099511627776 by omega)]
  rw[aE (by simp;omega),hbd]
  simp only[ab,hd,hb,hb1]
  rw[aE (by simp[cQ];omega)]
  simp only[List.append_assoc]) (List.replicate 8 (0:Int)++ [1]) (by simp)
 have e:ac fT (l,(List.replicate (8:Int).toNat (0:Int))++ [1],(0:Int),())=_:=e
 have hlen:=FL l
 unfold ph
 simp only[e]
 rw[if_pos (show(0:Int)≤8∧(8:Int)≤8 from⟨by decide,by decide⟩),aE (by decide),aE (by decide),aE (by rw[hlen];show 9+10*l.length+2≤_;omega)]
 rfl
end Go.Proofs.YtckljdhdadiphaaGreatDoor
namespace Go.Proofs.YtckljdhdadiphaaGreatDoor
open Go.RowKit
set_option linter.unusedVariables false
set_option linter.unusedSimpArgs false
theorem HP(n:Nat)(h:n≤1099511627776):ob ((n:Int),())=some (List.replicate n (1:Int),()):=by
 have hr:EI [(1:Int)] (n:Int)=some (List.replicate n 1):=by
  show(if(0:Int)≤(n:Int)∧(n:Int)≤1099511627776 then some (List.replicate ((n:Int)).toNat (1:Int))else none)=_
  rw[if_pos ⟨by omega,by omega⟩,Int.toNat_natCast]
 have hs:dy ([(1:Int)],(n:Int),())=some (List.replicate n (1:Int),()):=by
  unfold dy
  simp only[hr,ab]
 unfold ob
 simp only[hs]
theorem M0(x:Int):∀(n:Nat) (acc:List Int),acc.length+n≤1099511627776→ac hH ((n:Int),x,acc,())=some (.inl (acc++List.replicate n x,()))
 |0,acc,_=>by
  rw[am]
  have hd:decide (((0:Nat):Int)>0)=false:=by decide
  simp only[hH,hd,List.replicate_zero,List.append_nil]
 |n+1,acc,h=>by
  rw[am]
  have hd:decide (((n+1:Nat):Int)>0)=true:=decide_eq_true (by omega)
  have hw:IntKind.i64.wrap (((n+1:Nat):Int)-1)=(n:Int):=by rw[wrap_i64]<;>omega
  simp only[hH,hd,hw]
  rw[aE (by show acc.length+1≤_;omega)]
  simp only
  rw[M0 x n (acc++ [x]) (by simp;omega),List.append_assoc,List.singleton_append,List.replicate_succ]
theorem C9(n:Nat)(x:Int)(h:n≤1099511627776):eG ((n:Int),x,())=some (List.replicate n x,()):=by
 have e:=M0 x n [] (by simp;omega)
 unfold eG
 simp only[e,List.nil_append]
theorem Rj(v:Int)(n:Nat):∀(k i:Nat) (acc:List Int),i+k=n→acc.length+k≤1099511627776→n≤1099511627776→ac im (acc,v,(n:Int),(i:Int),())=some (.inl (acc++List.replicate k v,()))
 |0,i,acc,hi,_,_=>by
  have hi:i=n:=by omega
  subst hi
  rw[am]
  simp only[im,bJ,List.replicate_zero,List.append_nil]
 |k+1,i,acc,hi,h,hn=>by
  have hlt:i<n:=by omega
  rw[am]
  simp only[im,bw hlt,aQ hlt hn]
  rw[aE (by show acc.length+1≤_;omega)]
  simp only
  rw[Rj v n k (i+1) (acc++ [v]) (by omega) (by simp;omega) hn,List.append_assoc,List.singleton_append,List.replicate_succ]
theorem VN(acc:List Int)(v:Int)(n:Nat)(h:acc.length+n≤1099511627776):uE (acc,v,(n:Int),())=some (acc++List.replicate n v,()):=by
 have e:=Rj v n n 0 acc (by omega) h (by omega)
 have e:ac im (acc,v,(n:Int),(0:Int),())=_:=e
 unfold uE
 simp only[e]
def bd(l:List Int):List Int:=l.flatMap fun c=>List.replicate 8 c
theorem qo(l:List Int):(bd l).length=8*l.length:=by
 unfold bd
 induction l with
 |nil=>rfl
 |cons c l ih=>rw[List.flatMap_cons,List.length_append,ih,List.length_replicate,List.length_cons];omega
theorem HQ {l:List Int}(h:∀b ∈ l,b=0∨b=1):∀b ∈ bd l,b=0∨b=1:=by
 intro b hb
 unfold bd at hb
 obtain⟨c,hc,hb⟩:=List.mem_flatMap.1 hb
 rw[(List.mem_replicate.1 hb).2]
 exact h c hc
theorem yX {l:List Int}(h:∀b ∈ l,b=0∨b=1)(hl:l.length≤8192):dn l=true:=by
 unfold dn
 simp only[Bool.and_eq_true,List.all_eq_true,decide_eq_true_eq]
 refine⟨by omega,fun v hv=>bg.2 ?_⟩
 rcases h v hv with rfl|rfl<;>omega
theorem Kj(l:List Int)(h:∀b ∈ l,b=0∨b=1)(hl:l.length≤1024):eJ (l,())=some (bd l,(0:Int),()):=by
 have hb:=Cv l (by omega)
 rw[yX h (by omega)]at hb
 have e:=HO (B:=di) l (fun s i=>(s,l,(l.length:Int),(i:Int),())) (fun c=>List.replicate 8 c) 0 8 (fun v _=>by simp) (fun s=>.inl (s,())) (fun s=>by simp only[di,bJ]) (fun s i h hs=>by
  have ha:uE (s,l[i],(8:Int),())=some (s++List.replicate 8 l[i],()):=VN s l[i] 8 (by omega)
  simp only[di,bw h,aQ h (show l.length≤1099511627776 by omega),az h,ab,ha]) [] (by simp)
 have e:ac di ([],l,(l.length:Int),(0:Int),())=_:=e
 have hw:decide (IntKind.i64.wrap ((l.length:Int)*8)>8192)=false:=by
  have:IntKind.i64.wrap ((l.length:Int)*8)=(l.length:Int)*8:=by rw[wrap_i64]<;>omega
  rw[this]
  exact decide_eq_false (by omega)
 unfold eJ
 simp only[hb,Bool.not_true,hw,e,List.nil_append]
 rfl
theorem HR(l w:List Int)(j:Nat)(hj:j<l.length)(hj2:j<w.length)(hw:w[j]=8):∀(k i:Nat) (acc:List Int),i+k=8→acc.length+k≤1099511627776→ac eL (l,w,acc,(j:Int),(i:Int),())=some (.inl (l,w,acc++List.replicate k l[j],(j:Int),()))
 |0,i,acc,hi,_=>by
  have hi:i=8:=by omega
  subst hi
  rw[am]
  have hd:decide (((8:Nat):Int)<8)=false:=by decide
  simp only[eL,az hj2,ab,hw,hd,List.replicate_zero,List.append_nil]
 |k+1,i,acc,hi,h=>by
  rw[am]
  have hd:decide ((i:Int)<8)=true:=by simp;omega
  have hn:IntKind.i64.wrap ((i:Int)+1)=((i+1:Nat):Int):=by rw[wrap_i64]<;>omega
  simp only[eL,az hj2,az hj,ab,hw,hd,hn]
  rw[aE (by show acc.length+1≤_;omega)]
  simp only
  rw[HR l w j hj hj2 hw k (i+1) (acc++ [l[j]]) (by omega) (by simp;omega),List.append_assoc,List.singleton_append,List.replicate_succ]
theorem Rk(l:List Int)(hl:l.length≤1024):lw (l,())=some (bd l,()):=by
 have hq:eG ((l.length:Int),(8:Int),())=some (List.replicate l.length (8:Int),()):=C9 l.length 8 (by omega)
 have e:=HO (B:=eM) l (fun s i=>(l,List.replicate l.length (8:Int),s,(i:Int),())) (fun c=>List.replicate 8 c) 0 8 (fun v _=>by simp) (fun s=>.inl (s,())) (fun s=>by simp only[eM,bJ]) (fun s i h hs=>by
  have ha:ac eL (l,List.replicate l.length (8:Int),s,(i:Int),(0:Int),())=_:=HR l (List.replicate l.length (8:Int)) i h (by simpa using h) (by simp) 8 0 s (by omega) (by omega)
  simp only[eM,bw h,ha,aQ h (show l.length≤1099511627776 by omega)]) [] (by simp)
 have e:ac eM (l,List.replicate l.length (8:Int),[],(0:Int),())=_:=e
 unfold lw uJ
 simp only[hq,e,List.nil_append]
 rfl
noncomputable def iw(m:ap.T)(st:ak.T)(f:aL.T):Bool:=(bp f&&gW (ck m st) f)&&(!(f.1 != (0:Int))||dE ak f.2.2.1 st)
theorem TU(d:cE.T)(f:aL.T)(hd:nB d=true)(hl:f.2.2.2.1.length≤1099511627776):io (d,f,())=some (bp f&&gW d f,()):=by
 have h1:eX (d,())=some (true,()):=by rw[←hd];exact Rg (d,())
 have h2:ex (f,())=some (bp f,()):=OJ (f,()) hl
 have h3:uw (d,f,())=some (gW d f,()):=OV (d,f,())
 have e0:io (d,f,())=match eX (d,())with
  |none=>none
  |some v1=>match v1.1 with
   |true=>match ex (f,())with
    |none=>none
    |some v2=>match v2.1 with
     |true=>match uw (d,f,())with
      |none=>none
      |some v3=>some (v3.1,())
     |false=>some (false,())
   |false=>some (false,()):=rfl
 rw[e0,h1]
 simp only[h2]
 cases bp f
 ·rfl
 ·simp only[h3,Bool.true_and]
theorem TV(d:cE.T)(f:aL.T)(hd:nB d=true)(hl:f.2.2.2.1.length≤1099511627776):dg (d,f,())=some (bp f&&gW d f,()):=by
 have h1:dR (d,())=some (true,()):=by rw[←hd];exact MM (d,())
 have h2:cD (f,())=some (bp f,()):=Jo (f,()) hl
 cases hf:bp f with
 |true=>rw[OW d f hd hf hl,Bool.true_and]
 |false=>
  rw[hf]at h2
  have e0:dg (d,f,())=match dR (d,())with
   |none=>none
   |some v1=>match v1.1 with
    |true=>match cD (f,())with
     |none=>none
     |some v2=>match v2.1 with
      |true=>_
      |false=>some (false,())
    |false=>some (false,()):=rfl
  rw[e0,h1]
  simp only[h2]
  rfl
theorem Rl(m:ap.T)(st:ak.T)(f:aL.T)(h:bC m=true)(hb:aN m st=true)(hl:f.2.2.2.1.length≤1099511627776):ip (m,st,f,())=some (iw m st f,()):=by
 obtain⟨_,hd,hq⟩:=jI m st h hb
 have hf:=TU (ck m st) f hq hl
 have e0:ip (m,st,f,())=match cK (m,st,())with
  |none=>none
  |some v1=>match io (v1.1,f,())with
   |none=>none
   |some v2=>match v2.1 with
    |true=>match(!(f.1 != (0:Int)))with
     |true=>some (true,())
     |false=>some ((dE ak f.2.2.1 st),())
    |false=>some (false,()):=rfl
 rw[e0,hd]
 simp only[hf]
 unfold iw
 cases bp f&&gW (ck m st) f<;>cases (!(f.1 != (0:Int)))<;>simp
theorem Vo(m:ap.T)(st:ak.T)(f:aL.T)(h:bC m=true)(hb:aN m st=true)(hl:f.2.2.2.1.length≤1099511627776):kk (m,st,f,())=some (iw m st f,()):=by
 obtain⟨hd,_,hq⟩:=jI m st h hb
 have hf:=TV (ck m st) f hq hl
 have e0:kk (m,st,f,())=match ge (m,st,())with
  |none=>none
  |some v1=>match dg (v1.1,f,())with
   |none=>none
   |some v2=>match v2.1 with
    |true=>match(!(f.1 != (0:Int)))with
     |true=>some (true,())
     |false=>some ((dE ak f.2.2.1 st),())
    |false=>some (false,()):=rfl
 rw[e0,hd]
 simp only[hf]
 unfold iw
 cases bp f&&gW (ck m st) f<;>cases (!(f.1 != (0:Int)))<;>simp
noncomputable def bm(m:ap.T)(st:ak.T)(f:aL.T):Int:=match bC m with
 |false=>1
 |true=>match aN m st with
  |false=>2
  |true=>match iw m st f with
   |false=>5
   |true=>0
theorem OZ(m:ap.T)(st:ak.T)(f:aL.T)(hz:dk m)(hl:f.2.2.2.1.length≤1099511627776):jY (m,st,f,())=some (bm m st f,()):=by
 have hM:ik (m,())=_:=HN m hz
 have e0:jY (m,st,f,())=match fp (m,st,())with
  |none=>none
  |some v1=>match(v1.1 != (0:Int))with
   |true=>some (v1.1,())
   |false=>match ip (m,st,f,())with
    |none=>none
    |some v2=>match(!v2.1)with
     |true=>some ((5:Int),())
     |false=>some ((0:Int),()):=rfl
 have e1:fp (m,st,())=match ik (m,())with
  |none=>none
  |some v1=>match(!v1.1)with
   |true=>some ((1:Int),())
   |false=>match iO (m,st,())with
    |none=>none
    |some v2=>match(!v2.1)with
     |true=>some ((2:Int),())
     |false=>some ((0:Int),()):=rfl
 rw[e0,e1,hM]
 unfold bm
 rcases Bool.eq_false_or_eq_true (bC m)with h1|h1<;>simp only[h1,Bool.not_true,Bool.not_false]
 ·have hB:=Li m st h1
  simp only[hB]
  rcases Bool.eq_false_or_eq_true (aN m st)with h2|h2<;>simp only[h2,Bool.not_true,Bool.not_false]
  ·have hS:=Rl m st f h1 h2 hl
   have k0:((0:Int) != 0)=false:=rfl
   simp only[k0,hS]
   cases iw m st f<;>rfl
  ·rfl
 ·rfl
theorem Jy(m:ap.T)(st:ak.T)(f:aL.T)(hz:dk m)(hl:f.2.2.2.1.length≤1099511627776):iI (m,st,f,())=some (bm m st f,()):=by
 have hM:gE (m,())=_:=HM m hz
 have e0:iI (m,st,f,())=match jN (m,st,())with
  |none=>none
  |some v1=>match(v1.1==(0:Int))with
   |true=>match kk (m,st,f,())with
    |none=>none
    |some v2=>match(!v2.1)with
     |true=>some ((5:Int),())
     |false=>some (v1.1,())
   |false=>some (v1.1,()):=rfl
 have e1:jN (m,st,())=match gE (m,())with
  |none=>none
  |some v1=>match(!v1.1)with
   |true=>some ((1:Int),())
   |false=>match gd (m,st,())with
    |none=>none
    |some v2=>match(!v2.1)with
     |true=>some ((2:Int),())
     |false=>some ((0:Int),()):=rfl
 rw[e0,e1,hM]
 unfold bm
 rcases Bool.eq_false_or_eq_true (bC m)with h1|h1<;>simp only[h1,Bool.not_true,Bool.not_false]
 ·have hB:=P8 m st h1
  simp only[hB]
  rcases Bool.eq_false_or_eq_true (aN m st)with h2|h2<;>simp only[h2,Bool.not_true,Bool.not_false]
  ·have hS:=Vo m st f h1 h2 hl
   have k0:((0:Int)==0)=true:=rfl
   simp only[k0,hS]
   cases iw m st f<;>rfl
  ·rfl
 ·rfl
end Go.Proofs.YtckljdhdadiphaaGreatDoor
namespace Go.Proofs.YtckljdhdadiphaaGreatDoor
open Go.RowKit
set_option linter.unusedVariables false
set_option linter.unusedSimpArgs false
theorem Vp(n:Nat)(hn:n≤1099511627776):jq ((),(n:Int),())=some ([],()):=by
 unfold jq
 have w0:IntKind.i64.wrap ((0:Int)-0)=0:=by decide
 have w1:IntKind.i64.wrap ((n:Int)-0)=n:=by rw[Int.sub_zero,wrap_i64]<;>omega
 have n0:decide ((n:Int)<0)=false:=by simp
 simp only[w0,w1,n0]
 by_cases h:(n:Int)>0
 ·have b1:aK 0 none (some (.dat (.int .i64) (0:Int)))=some (0,0):=rfl
  have b2:aK (List.replicate ((n:Int).toNat) (0:Int)).length none (some (.dat (.int .i64) (0:Int)))=some (0,0):=by
   have hh:(0:Int)≤0∧(0:Int)≤0∧(0:Int)≤((List.replicate ((n:Int).toNat) (0:Int)).length:Int):=⟨by omega,by omega,by omega⟩
   simp only[aK,jO,jr]
   exact if_pos hh
  have hp:(0:Int)≤(n:Int):=by omega
  simp only[decide_eq_true h,b1,ab,hp,if_true]
  rw[aE (by rw[Int.toNat_natCast];exact hn),b2]
  rfl
 ·simp only[decide_eq_false h]
theorem SD(a b:List Int)(h:a.length+b.length≤1099511627776):fL ([a,b],())=some (a++b,()):=by
 unfold fL
 have w1:IntKind.i64.wrap ((0:Int)+(a.length:Int))=(a.length:Int):=by rw[Int.zero_add,wrap_i64]<;>omega
 have w2:IntKind.i64.wrap ((a.length:Int)+(b.length:Int))=((a.length+b.length:Nat):Int):=by rw[←Int.natCast_add,wrap_i64]<;>omega
 have n1:decide ((a.length:Int)<0)=false:=by simp
 have n2:decide (((a.length+b.length:Nat):Int)<0)=false:=by simp;omega
 have i0:au [a,b] (0:Int)=some a:=rfl
 have i1:au [a,b] (1:Int)=some b:=rfl
 have k1:IntKind.i64.wrap ((0:Int)+1)=1:=by decide
 have k2:IntKind.i64.wrap ((1:Int)+1)=2:=by decide
 have c0:decide ((0:Int)<2)=true:=by decide
 have c1:decide ((1:Int)<2)=true:=by decide
 have c2:decide ((2:Int)<2)=false:=by decide
 have e1:ac cj ([a,b],(0:Int),[a,b],((2:Nat):Int),(0:Int),())=some (.inl ([a,b],((a.length+b.length:Nat):Int),())):=by
  rw[am]
  simp only[cj,i0,ab,w1,n1,k1,c0,show(((2:Nat):Int))=2 from rfl]
  rw[am]
  simp only[cj,i1,ab,w2,n2,k2,c1]
  rw[am]
  simp only[cj,c2]
 have e2:ac cd ([],[a,b],((2:Nat):Int),(0:Int),())=some (.inl (a++b,())):=by
  rw[am]
  simp only[cd,i0,ab,k1,c0,show(((2:Nat):Int))=2 from rfl]
  rw[aE (by simp;omega)]
  simp only[List.nil_append]
  rw[am]
  simp only[cd,i1,ab,k2,c1]
  rw[aE (by omega)]
  simp only
  rw[am]
  simp only[cd,c2]
 have e1:ac cj ([a,b],(0:Int),[a,b],(([a,b]:List (List Int)).length:Int),(0:Int),())=_:=e1
 have e2:ac cd ([],[a,b],(([a,b]:List (List Int)).length:Int),(0:Int),())=_:=e2
 simp only[e1,Vp _ h,e2]
theorem tu {m:ap.T}{st:ak.T}{f:aL.T}(h:iw m st f=true):bp f=true∧gW (ck m st) f=true:=by
 unfold iw at h
 simp only[Bool.and_eq_true]at h
 exact h.1
theorem HS {m:ap.T}{st:ak.T}{f:aL.T}(r:Nat)(hr:r<16777216)(h:bC m=true)(hb:aN m st=true)(hs:iw m st f=true):
  ∃D:Nat,(ck m st).2.2.2.1=(D:Int)∧19+10*(aW f r st).length+12≤D∧D≤1000:=by
 obtain⟨hf,ht⟩:=tu hs
 obtain⟨_,_,hq⟩:=jI m st h hb
 obtain⟨_,hl,_⟩:=p9 (st:=st) hf hr
 generalize ck m st=d at hq ht
 unfold nB at hq
 unfold gW at ht
 simp only[Bool.and_eq_true,beq_iff_eq]at hq ht
 obtain⟨q1,q2,q3,q4,q5⟩:=hq
 obtain⟨t1,t2,t3⟩:=ht
 have hsz:=yR q3
 have hbn:=FI d.2.1 d.2.2.1 hsz.1 hsz.2
 rw[t1,t2]at hl
 have q5:=bg.1 q5
 have hc:xS d.2.1 d.2.2.1=11+10*(lR d.2.1 d.2.2.1+3):=rfl
 rw[hc]at q5
 generalize (aW f r st).length=k at hl ⊢
 generalize lR d.2.1 d.2.2.1=bn at hl hbn q5
 have hw:IntKind.i64.wrap (11+10*(bn+3)+20)=11+10*(bn+3)+20:=by rw[wrap_i64]<;>omega
 rw[hw]at q5
 generalize d.2.2.2.1=D at q5
 have hD:(0:Int)≤D:=by omega
 obtain⟨D,rfl⟩:=Int.eq_ofNat_of_zero_le hD
 exact⟨D,rfl,by omega,by omega⟩
def bQ(m:ap.T)(st:ak.T)(f:aL.T):List Int:=(List.replicate 8 (1:Int)++bT (aW f m.1.toNat st))++List.replicate ((ck m st).2.2.2.1.toNat-(19+10*(aW f m.1.toNat st).length)) 1
theorem og {m:ap.T}{st:ak.T}{f:aL.T}(h:bm m st f=0):bC m=true∧aN m st=true∧iw m st f=true:=by
 unfold bm at h
 cases h1:bC m<;>rw[h1]at h
 ·cases h
 ·cases h2:aN m st<;>rw[h2]at h
  ·cases h
  ·cases h3:iw m st f<;>rw[h3]at h
   ·cases h
   ·exact⟨rfl,rfl,rfl⟩
theorem oh {m:ap.T}{st:ak.T}(h:aN m st=true):bl st=true:=by
 unfold aN at h
 simp only[Bool.and_eq_true]at h
 exact h.1
theorem FM {m:ap.T}{st:ak.T}{f:aL.T}(h:bm m st f=0):(bQ m st f).length≤1000∧∀b ∈ bQ m st f,b=0∨b=1:=by
 obtain⟨h1,h2,h3⟩:=og h
 obtain⟨r,hr,hr2⟩:=jJ h1
 obtain⟨D,hD,d1,d2⟩:=HS r hr2 h1 h2 h3
 obtain⟨s1,_,_⟩:=p9 (st:=st) (tu h3).1 hr2
 unfold bQ
 rw[hD,hr,Int.toNat_natCast,Int.toNat_natCast]
 refine⟨?_,fun b hb=> ?_⟩
 ·rw[List.length_append,List.length_append,lC,List.length_replicate,List.length_replicate]
  omega
 ·simp only[List.mem_append,List.mem_replicate]at hb
  rcases hb with(⟨_,rfl⟩|hb)|⟨_,rfl⟩
  ·exact .inr rfl
  ·exact Jw s1 b hb
  ·exact .inr rfl
theorem Ep(m:ap.T)(st:ak.T)(f:aL.T)(hz:dk m)(hl:f.2.2.2.1.length≤1099511627776):ji (m,st,f,())=some (if bm m st f=0 then(bQ m st f,(0:Int),())else([],bm m st f,())):=by
 have hc:=OZ m st f hz hl
 have e0:ji (m,st,f,())=match jY (m,st,f,())with
  |none=>none
  |some v1=>match(v1.1 != (0:Int))with
   |true=>some ([],v1.1,())
   |false=>match ob ((8:Int),())with
    |none=>none
    |some v2=>match qW (f,m.1,st,())with
     |none=>none
     |some v3=>match lm (v3.1,(8:Int),())with
      |none=>none
      |some v4=>match fL ([v2.1,v4.1],())with
       |none=>none
       |some v5=>match cK (m,st,())with
        |none=>none
        |some v6=>match ob ((IntKind.i64.wrap (v6.1.2.2.2.1-(v5.1.length:Int))),())with
         |none=>none
         |some v7=>aD (v5.1.length+v7.1.length) (some ((v5.1++v7.1),(0:Int),())):=rfl
 rw[e0,hc]
 by_cases h:bm m st f=0
 ·obtain⟨h1,h2,h3⟩:=og h
  obtain⟨r,hr,hr2⟩:=jJ h1
  obtain⟨D,hD,d1,d2⟩:=HS r hr2 h1 h2 h3
  have hf:=(tu h3).1
  obtain⟨s1,_,s2⟩:=p9 (st:=st) hf hr2
  have k0:(bm m st f != 0)=false:=by rw[h];rfl
  have a1:ob ((8:Int),())=some (List.replicate 8 (1:Int),()):=HP 8 (by omega)
  have a2:qW (f,m.1,st,())=some (aW f r st,()):=by rw[hr];exact Ki f r st hf hr2 (oh h2)
  have a3:=MZ (aW f r st) (by omega)
  have hll:=lC (aW f r st)
  have a4:=SD (List.replicate 8 (1:Int)) (bT (aW f r st)) (by rw[List.length_replicate];omega)
  obtain⟨_,a5,_⟩:=jI m st h1 h2
  have hlen:(List.replicate 8 (1:Int)++bT (aW f r st)).length=19+10*(aW f r st).length:=by rw[List.length_append,List.length_replicate,hll];omega
  have hw:IntKind.i64.wrap ((ck m st).2.2.2.1-(((List.replicate 8 (1:Int)++bT (aW f r st)).length:Nat):Int))=((D-(19+10*(aW f r st).length):Nat):Int):=by
   rw[hlen,hD,wrap_i64]<;>omega
  have a6:=HP (D-(19+10*(aW f r st).length)) (by omega)
  rw[if_pos h]
  simp only[k0,a1,a2,a3,a4,a5]
  have hw':IntKind.i64.wrap ((ck m st).2.2.2.1-((List.replicate 8 (1:Int)++bT (aW f r st)).length:Int))=((D-(19+10*(aW f r st).length):Nat):Int):=hw
  rw[hw']
  simp only[a6]
  rw[aE (by rw[hlen,List.length_replicate];omega)]
  unfold bQ
  rw[hD,hr,Int.toNat_natCast,Int.toNat_natCast]
 ·have k0:(bm m st f != 0)=true:=by simpa using h
  rw[if_neg h]
  simp only[k0]
theorem Er(m:ap.T)(st:ak.T)(f:aL.T)(hz:dk m)(h:bm m st f=0):jZ (m,st,f,())=some (bQ m st f,()):=by
 obtain⟨h1,h2,h3⟩:=og h
 obtain⟨r,hr,hr2⟩:=jJ h1
 obtain⟨D,hD,d1,d2⟩:=HS r hr2 h1 h2 h3
 have hf:=(tu h3).1
 obtain⟨s1,_,s2⟩:=p9 (st:=st) hf hr2
 have a1:eG ((8:Int),(1:Int),())=some (List.replicate 8 (1:Int),()):=C9 8 1 (by omega)
 have a2:gY (f,m.1,st,())=some (aW f r st,()):=by rw[hr];exact CG f r st hf hr2 (oh h2)
 have a3:=Vn (aW f r st) (by omega)
 have hll:=lC (aW f r st)
 obtain⟨a5,_,_⟩:=jI m st h1 h2
 have hlen:(List.replicate 8 (1:Int)++bT (aW f r st)).length=19+10*(aW f r st).length:=by rw[List.length_append,List.length_replicate,hll];omega
 have hw:IntKind.i64.wrap ((ck m st).2.2.2.1-(((List.replicate 8 (1:Int)++bT (aW f r st)).length:Nat):Int))=((D-(19+10*(aW f r st).length):Nat):Int):=by
  rw[hlen,hD,wrap_i64]<;>omega
 have a6:=C9 (D-(19+10*(aW f r st).length)) 1 (by omega)
 have e0:jZ (m,st,f,())=ai (
  match eG ((8:Int),(1:Int),())with
  |none=>none
  |some v1=>match gY (f,m.1,st,())with
   |none=>none
   |some v2=>match ph (v2.1,(8:Int),())with
    |none=>none
    |some v3=>aD (v1.1.length+v3.1.length) (
     match ge (m,st,())with
     |none=>none
     |some v4=>match eG ((IntKind.i64.wrap (v4.1.2.2.2.1-((v1.1++v3.1).length:Int))),(1:Int),())with
      |none=>none
      |some v5=>aD ((v1.1++v3.1).length+v5.1.length) (some (((v1.1++v3.1)++v5.1),())))):=rfl
 rw[e0]
 simp only[a1,a2,a3,a5]
 have hw':IntKind.i64.wrap ((ck m st).2.2.2.1-((List.replicate 8 (1:Int)++bT (aW f r st)).length:Int))=((D-(19+10*(aW f r st).length):Nat):Int):=hw
 rw[hw',aE (by rw[List.length_replicate,hll];omega)]
 simp only[a6]
 rw[aE (by rw[hlen,List.length_replicate];omega)]
 unfold bQ
 rw[hD,hr,Int.toNat_natCast,Int.toNat_natCast]
 exact tD _
theorem TW(m:ap.T)(st:ak.T)(f:aL.T)(hz:dk m)(hl:f.2.2.2.1.length≤1099511627776):kq (m,st,f,())=some (if bm m st f=0 then(bd (bQ m st f),(0:Int),())else([],bm m st f,())):=by
 have hc:=Ep m st f hz hl
 have e0:kq (m,st,f,())=match ji (m,st,f,())with
  |none=>none
  |some v1=>match(v1.2.1 != (0:Int))with
   |true=>some ([],v1.2.1,())
   |false=>match eJ (v1.1,())with
    |none=>none
    |some v2=>some v2:=rfl
 rw[e0,hc]
 by_cases h:bm m st f=0
 ·obtain⟨c1,c2⟩:=FM h
  have hn:=Kj (bQ m st f) c2 (by omega)
  simp only[if_pos h,hn]
  rfl
 ·have k0:(bm m st f != 0)=true:=by simpa using h
  simp only[if_neg h,k0]
theorem TX(m:ap.T)(st:ak.T)(f:aL.T)(hz:dk m)(hl:f.2.2.2.1.length≤1099511627776):kr (m,st,f,())=some (if bm m st f=0 then(bd (bQ m st f),(0:Int),())else([],bm m st f,())):=by
 have hc:=Jy m st f hz hl
 have e0:kr (m,st,f,())=match iI (m,st,f,())with
  |none=>none
  |some v1=>match(v1.1 != (0:Int))with
   |true=>some ([],v1.1,())
   |false=>match jZ (m,st,f,())with
    |none=>none
    |some v2=>match lw (v2.1,())with
     |none=>none
     |some v3=>some (v3.1,(0:Int),()):=rfl
 rw[e0,hc]
 by_cases h:bm m st f=0
 ·obtain⟨c1,c2⟩:=FM h
  have hs:=Er m st f hz h
  have hn:=Rk (bQ m st f) (by omega)
  have k0:(bm m st f != 0)=false:=by rw[h];rfl
  simp only[k0,hs,hn,if_pos h]
 ·have k0:(bm m st f != 0)=true:=by simpa using h
  simp only[if_neg h,k0]
end Go.Proofs.YtckljdhdadiphaaGreatDoor
namespace Go.Proofs.YtckljdhdadiphaaGreatDoor
open Go.RowKit
set_option linter.unusedVariables false
set_option linter.unusedSimpArgs false
theorem TY {m:ap.T}{st:ak.T}(h:bC m=true)(hb:aN m st=true):∃(a:Nat) (ha:a<m.2.2.1.length),st.2.1=(a:Int)∧0≤st.2.2.1∧st.2.2.1<m.2.2.1[a].1∧0≤st.2.2.2.1∧st.2.2.2.1<m.2.2.1[a].2.1∧(1≤m.2.2.1[a].1∧m.2.2.1[a].1≤16)∧(1≤m.2.2.1[a].2.1∧m.2.2.1[a].2.1≤256):=by
 obtain⟨_,hn,hm,hs,_⟩:=iW h
 have hg:=(fy hm).2
 unfold aN at hb
 rw[Bool.and_eq_true]at hb
 obtain⟨a,b,c,d,ea,eb,ec,ed,ha,hb',hc',hd⟩:=yW hb.1
 have hb2:=hb.2
 rw[ea,eb,ec,ed]at hb2
 rw[Int.toNat_natCast]at hb2
 by_cases hal:a<m.2.2.1.length
 ·simp only[List.getElem?_eq_getElem hal,Bool.and_eq_true,decide_eq_true_eq]at hb2
  have hgi:=hg _ (List.getElem_mem hal)
  obtain⟨h1,h2,_⟩:=hb2
  exact⟨a,hal,ea,by rw[eb];exact Int.natCast_nonneg _,by rw[eb];exact h1,by rw[ec];exact Int.natCast_nonneg _,by rw[ec];exact h2,⟨hgi.1.1,Int.le_trans hgi.1.2 (by decide)⟩,⟨hgi.2.1,Int.le_trans hgi.2.2 (by decide)⟩⟩
 ·simp only[List.getElem?_eq_none (Nat.not_lt.1 hal)]at hb2
  cases hb2
end Go.Proofs.YtckljdhdadiphaaGreatDoor
namespace Go.Proofs.YtckljdhdadiphaaGreatDoor
open Go.RowKit
set_option linter.unusedVariables false
set_option linter.unusedSimpArgs false
def po(m:ap.T)(st:ak.T)(fill req:Int):aL.T:=((ck m st).2.1,req,(if((ck m st).2.1 != (0:Int))=true then st else gx),List.replicate (ck m st).2.2.1.toNat fill,())
theorem Kk {d:cE.T}(h:nB d=true):∃k:Nat,d.2.2.1=(k:Int)∧k≤1000:=by
 unfold nB at h
 simp only[Bool.and_eq_true]at h
 have hsz:=yR h.2.2.1
 obtain⟨z0,z1⟩:=hsz
 have e:((d.2.2.1.toNat:Nat):Int)=d.2.2.1:=Int.toNat_of_nonneg z0
 have h2:((d.2.2.1.toNat:Nat):Int)≤1000:=by rw[e];exact z1
 exact⟨d.2.2.1.toNat,e.symm,by omega⟩
theorem P9 {m:ap.T}{st:ak.T}(h:bC m=true)(hb:aN m st=true)(fill req:Int):(po m st fill req).2.2.2.1.length≤1000:=by
 obtain⟨_,_,hq⟩:=jI m st h hb
 obtain⟨k,hk,hk2⟩:=Kk hq
 show(List.replicate (ck m st).2.2.1.toNat fill).length≤1000
 rw[hk,List.length_replicate]
 omega
theorem SE(m:ap.T)(st:ak.T)(fill req:Int)(h:bC m=true)(hb:aN m st=true):ar (m,st,fill,req,())=some (po m st fill req,()):=by
 obtain⟨hd,_,hq⟩:=jI m st h hb
 obtain⟨k,hk,hk2⟩:=Kk hq
 have he:=C9 k fill (by omega)
 have hst:∀z:Int,cU (z,())=some ((z != (0:Int)),()):=fun z=>rfl
 unfold ar po
 simp only[hd,hk,he,hst,Int.toNat_natCast,tD,cT]
 cases ((ck m st).2.1 != (0:Int))<;>rfl
theorem O0(m:ap.T)(st:ak.T)(hz:dk m):fp (m,st,())=some ((match bC m with|false=>1|true=>match aN m st with|false=>2|true=>0:Int),()):=by
 have hM:ik (m,())=_:=HN m hz
 have e1:fp (m,st,())=match ik (m,())with
  |none=>none
  |some v1=>match(!v1.1)with
   |true=>some ((1:Int),())
   |false=>match iO (m,st,())with
    |none=>none
    |some v2=>match(!v2.1)with
     |true=>some ((2:Int),())
     |false=>some ((0:Int),()):=rfl
 rw[e1,hM]
 rcases Bool.eq_false_or_eq_true (bC m)with h1|h1<;>simp only[h1,Bool.not_true,Bool.not_false]
 have hB:=Li m st h1
 simp only[hB]
 rcases Bool.eq_false_or_eq_true (aN m st)with h2|h2<;>simp only[h2,Bool.not_true,Bool.not_false]
theorem TZ(m:ap.T)(st:ak.T)(hz:dk m):jN (m,st,())=some ((match bC m with|false=>1|true=>match aN m st with|false=>2|true=>0:Int),()):=by
 have hM:gE (m,())=_:=HM m hz
 have e1:jN (m,st,())=match gE (m,())with
  |none=>none
  |some v1=>match(!v1.1)with
   |true=>some ((1:Int),())
   |false=>match gd (m,st,())with
    |none=>none
    |some v2=>match(!v2.1)with
     |true=>some ((2:Int),())
     |false=>some ((0:Int),()):=rfl
 rw[e1,hM]
 rcases Bool.eq_false_or_eq_true (bC m)with h1|h1<;>simp only[h1,Bool.not_true,Bool.not_false]
 have hB:=P8 m st h1
 simp only[hB]
 rcases Bool.eq_false_or_eq_true (aN m st)with h2|h2<;>simp only[h2,Bool.not_true,Bool.not_false]
end Go.Proofs.YtckljdhdadiphaaGreatDoor

/- Texts of the proof, joined: LogP4. -/
import Derived.Test.YtcdajbmgoafnkaaQeLogP3

